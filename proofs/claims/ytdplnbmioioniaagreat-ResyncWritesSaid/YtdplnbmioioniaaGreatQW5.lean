import Derived.Test.YtdplnbmioioniaaGreatQW4
section
namespace Go.Proofs.YtdplnbmioioniaaGreat.Pq
open Go.RowKit Go.Shelf Go.Proofs.YtdplnbmioioniaaGreatW.PrintWords Go.Proofs.YtdplnbmioioniaaGreatW.PrintLast Go.Proofs.YtdplnbmioioniaaGreatW.PrintMore
set_option linter.unusedVariables false
set_option linter.unusedSimpArgs false
set_option maxHeartbeats 2000000
set_option maxRecDepth 100000
theorem eqNilI (w : World) (n c : Nat) : (binOp .eql 25 (.slice none n c) (.slice none 0 0)).run Tryz.prog w = .ok (.bool true) w := by kernel_rfl
theorem eqSomeI (w : World) (ad : Addr) (n c : Nat) : (binOp .eql 25 (.slice (some ad) n c) (.slice none 0 0)).run Tryz.prog w = .ok (.bool false) w := by kernel_rfl
attribute [local go_sem] eqNilI eqSomeI
theorem slices_Clone_int.calls (A : Option Addr) (c : Nat) (xs : List Int) (w : World) (hr : Kd.C (Kd.int .i64) w A xs.length xs) (hc : xs.length ≤ c) (hl : xs.length ≤ 1048576) :
    Calls Tryz.prog 30 #[.slice A xs.length c] w (RetR (Kd.int .i64) 3 xs w) := by
  cases A with
  | none =>
    have hx : xs = [] := by
      cases xs with
      | nil => rfl
      | cons x r => obtain ⟨_, _, h⟩ := hr; obtain ⟨ad, h, _⟩ := h (by simp); cases h
    subst hx
    go_enter Tryz.func30, Tryz.ntmps30
    go_wp2
    go_ret
    exact ⟨_, rfl, Kd.R_nil _ _ _ _ _, Below.refl _ _⟩
  | some ad =>
    have HR := Aside0.mk hr
    clear hr
    go_enter Tryz.func30, Tryz.ntmps30
    go_wp2_with ((with_reducible refine gate_builtin (b := .append) (xs := #[.tmp 5, .tmp 6]) rfl ?_); at_builtin; refine Kd.R_append_rows (Kd.int .i64) (Rr := (Kd.int .i64).K w) (w0 := w) w.heap.size rfl (.tmp 5) (.tmp 6) 25 3 (.int .i64 0) 8 rfl Tryz.underlying25 infoI rfl (by decide) (by decide) (.slice (some ⟨w.heap.size, 0, none⟩) 0 0) [] xs (some ad) xs.length c (fun _ => True) (fun _ => False) rfl rfl (R_made (Kd.int .i64) w w 3 #[] 0 (Nat.le_refl _) (by decide) rfl) (ReadsRow.imp_ HR.out (below_alloc (Below.refl _ _) _) (fun _ _ h => h)) (fun x cs h => h) (fun _ h => h.elim) (fun _ _ => trivial) (below_alloc (Below.refl _ _) _) (by simp) (by simp; omega) ?_; intro v1 w1 h1 h2 h3 h4; have n1 := Aside0.mk h1; have n2 := Aside0.mk h2; clear h1 h2 h3 h4)
    go_ret
    exact ⟨_, rfl, by simpa using n1.out, n2.out⟩
theorem each_seci.calls (g : Nat) (cb : Array Value) (F : Nat → List SS → Int) (A : Option Addr) (c : Nat) (ls : List (List SS)) (w : World)
    (eg : ∀ args w, (callFunc g args).run Tryz.prog w = .ok (.enter g args) w)
    (hr : Kd.C (Kd.slice 59 kSS) w A ls.length ls) (hc : ls.length ≤ c) (hl : ls.length ≤ 1048576)
    (hf : ∀ (i : Nat) (x : List SS) (A' : Option Addr) (c' : Nat) (W : World), Below w.heap.size w W → i < ls.length → x = ls.getD i [] → Kd.C kSS W A' x.length x → x.length ≤ c' → Calls Tryz.prog g (#[.int .i64 i, .slice A' x.length c'] ++ cb) W (Ret (.int .i64 (F i x)) W)) :
    Calls Tryz.prog 31 #[.slice A ls.length c, .func (.func g) #[] cb] w (RetR (Kd.int .i64) 3 (mp F 0 ls) w) := by
  have hmax := Kd.C_max hr
  go_enter Tryz.func31, Tryz.ntmps31
  go_wp2
  go_loopg [5, 10] ls.length (fun gg s5 s10 wr => ∃ (kk : Nat) (out : List Int), kk ≤ ls.length ∧ ls.length - kk ≤ gg ∧ s10 = .int .i64 kk ∧ out.length = kk ∧ Aside0 (Below w.heap.size w wr) ∧ Aside0 (Kd.R (Kd.int .i64) 3 wr w.heap.size (fun _ => True) s5 out) ∧ Aside0 (out ++ mp F kk (ls.drop kk) = mp F 0 ls))
  case atStart => exact ⟨0, [], Nat.zero_le _, by omega, rfl, rfl, ⟨Below.refl _ w⟩, ⟨Kd.R_nil _ _ _ _ _⟩, ⟨rfl⟩⟩
  case round =>
    obtain ⟨kk, out, hkk, hg, rfl, hol, BW, HO, HE⟩ := hrel
    by_cases hlt : kk < ls.length
    · obtain ⟨ad, A', c', rfl, hcell0, hc', hrow0⟩ := C_at_row hr kk hlt
      have hcell := pw_cell_below BW.out hcell0
      have hcall := hf kk (ls.getD kk []) A' c' wr BW.out hlt rfl (C_step hrow0 BW.out) hc'
      have HE' := Aside0.mk (show (out ++ [F kk (ls.getD kk [])]) ++ mp F (kk + 1) (ls.drop (kk + 1)) = mp F 0 ls by rw [List.append_assoc, List.singleton_append, ← mp_drop F ls [] kk hlt]; exact HE.out)
      clear hcell0 hrow0 HE hf hr
      generalize ls.getD kk [] = x at hcell hcall HE' hc'
      generalize F kk x = y at hcall HE'
      go_wp2_with (first | (go_at_fn g; refine hcall.mono ?_; rintro e w1 ⟨rfl, h2⟩; have n2 := Aside0.mk h2; clear h2) | ((with_reducible refine gate_builtin (b := .append) (xs := #[.tmp 15, .tmp 20]) rfl ?_); at_builtin; refine R_push (Kd.int .i64) 25 3 (.int .i64 0) 8 rfl rfl Tryz.underlying25 infoI rfl (by decide) (by decide) _ out y [.int .i64 y] rfl rfl rfl (xR_step HO.out n2.out) (below_then BW.out BW.out.size n2.out) (by omega) ?_; intro v1 w2 ho hb hgr hat; have n3 := Aside0.mk ho; have n4 := Aside0.mk hb; clear ho hb hgr hat))
      go_roundg (ls.length - (kk + 1))
      case measure => omega
      case rel => exact ⟨kk + 1, out ++ [y], by omega, by omega, by go_num, by simp [hol], n4, n3, HE'⟩
    · have hk : kk = ls.length := by omega
      have ho : out = mp F 0 ls := by have h := HE.out; rw [hk, List.drop_length] at h; simpa [mp] using h
      clear hf hr
      subst ho
      go_wp2
      go_ret
      exact ⟨_, rfl, HO.out, BW.out⟩
theorem resync_Cycle_1.calls (i : Int) (A : Option Addr) (n c : Nat) (w : World) : Calls Tryz.prog 32 #[.int .i64 i, .slice A n c] w (Ret (.int .i64 n) w) := by
  go_enter Tryz.func32, Tryz.ntmps32
  go_wp2
  go_ret
  exact ⟨rfl, Below.refl _ _⟩
theorem mp_lens : ∀ (im : Img) (k : Nat), mp (fun _ (x : List SS) => (x.length : Int)) k im = lens im
  | [], _ => rfl
  | x :: r, k => by rw [mp, mp_lens r (k + 1)]; rfl
def cycErr (b n t : Int) (pos : List Int) (ws : List WS) (sz : List Int) : Int :=
  if sizesErr sz = 0 then (if b < 0 ∨ n ≤ b ∨ 1073741824 < n then 2 else if 0 ≤ t ∧ t ≤ 1073741824 then (if posErr pos 0 = 0 then coalX ws sz else posErr pos 0) else 24) else sizesErr sz
theorem ev_cyccheck (b n t : Int) (pos : List Int) (ws : List WS) (sz : List Int) (hw : ∀ w ∈ ws, w.f2.length ≤ 1048576) : Ev (fun k => cycle_Check.f k b n t pos ws sz) (cycErr b n t pos ws sz) := by
  have e0 : image_New.f sz = some (newX sz) := rfl
  unfold cycErr
  by_cases hs : sizesErr sz = 0
  · rw [if_pos hs]
    have e1 : (newX sz).2 = 0 := by unfold newX; rw [if_pos hs]
    have two : Ev (fun k => cycle_Check.j0 k sz true b n t pos ws) 2 := Ev.step (f := fun _ => some 2) (fun k => by rw [cycle_Check.j0, if_pos rfl]) (Ev.now 2)
    by_cases h1 : b < 0
    · rw [if_pos (.inl h1)]
      exact Ev.congr (fun k => by unfold cycle_Check.f; rw [e0, Option.bind_some, if_pos e1, if_pos h1]) two
    · by_cases h2 : n ≤ b
      · rw [if_pos (.inr (.inl h2))]
        exact Ev.congr (fun k => by unfold cycle_Check.f; rw [e0, Option.bind_some, if_pos e1, if_neg h1, if_pos h2]) two
      · by_cases h3 : 1073741824 < n
        · rw [if_pos (.inr (.inr h3))]
          exact Ev.congr (fun k => by unfold cycle_Check.f; rw [e0, Option.bind_some, if_pos e1, if_neg h1, if_neg h2, decide_eq_true h3]) two
        · rw [if_neg (by omega)]
          refine Ev.congr (f := fun k => cycle_Check.j0 k sz false b n t pos ws) (fun k => by unfold cycle_Check.f; rw [e0, Option.bind_some, if_pos e1, if_neg h1, if_neg h2, decide_eq_false h3]) ?_
          have e2 : cycle_in.f t 0 1073741824 = some (decide (0 ≤ t ∧ t ≤ 1073741824)) := by
            unfold cycle_in.f
            by_cases a : t ≥ 0
            · rw [if_pos a]; exact congrArg some (decide_eq_decide.2 (by omega))
            · rw [if_neg a, decide_eq_false (by omega)]
          have e3 : cycle_positions.f pos 0 = some (posErr pos 0) := rfl
          have e4 : coalesce_Check.f ws sz = some (coalX ws sz) := by unfold coalesce_Check.f; rw [if_pos hw]
          refine Ev.step (f := fun _ => some _) (fun k => ?_) (Ev.now _)
          rw [cycle_Check.j0, if_neg (by simp), e2, Option.bind_some]
          by_cases h4 : 0 ≤ t ∧ t ≤ 1073741824
          · rw [decide_eq_true h4, if_pos rfl, if_pos h4, e3, Option.bind_some]
            by_cases h5 : posErr pos 0 = 0
            · rw [if_pos h5, if_pos h5, e4]; rfl
            · rw [if_neg h5, if_neg h5]
          · rw [decide_eq_false h4, if_neg (by simp), if_neg h4]
  · rw [if_neg hs]
    have e1 : (newX sz).2 = sizesErr sz := by unfold newX; rw [if_neg hs]
    exact Ev.congr (f := fun _ => some (sizesErr sz)) (fun k => by unfold cycle_Check.f; rw [e0, Option.bind_some, if_neg (by rw [e1]; exact hs), e1]) (Ev.now _)
def cycleX (im : Img) (l : List (List XE)) (b n t : Int) (pos : List Int) : Int × Int × Int × List Int × List WS × Int :=
  if (writesX im l).2 = 0 then (if cycErr b n t pos (writesX im l).1 (lens im) = 0 then (b, n, t, pos, (writesX im l).1, 0) else (0, 0, 0, [], [], cycErr b n t pos (writesX im l).1 (lens im))) else (0, 0, 0, [], [], (writesX im l).2)
def resync_Cycle.f (l0 : List (List SS)) (l1 : List (List XE)) (a2 a3 a4 : Int) (l5 : List Int) : Option (Int × Int × Int × List Int × List WS × Int) := if l0.length ≤ 1048576 ∧ okLs l1 ∧ l5.length ≤ 1048576 then some (cycleX l0 l1 a2 a3 a4 l5) else none
theorem writes_short (im : Img) (l : List (List XE)) : ∀ w ∈ (writesX im l).1, w.f2.length ≤ 1048576 := by
  intro w hw
  unfold writesX at hw
  by_cases hs : sizesErr (lens im) = 0
  · rw [if_pos hs] at hw
    by_cases hf : fitsX im l = 0
    · rw [if_pos hf] at hw
      obtain ⟨p, hp, rfl⟩ := List.mem_map.1 hw
      have hm := fits_mem hf p hp
      have := sizes_le hs p.1.toNat (by omega)
      show (((im.getD p.1.toNat []).take (p.2.f0 + p.2.f1).toNat).drop p.2.f0.toNat).length ≤ 1048576
      rw [List.length_drop, List.length_take]; omega
    · rw [if_neg hf] at hw; cases hw
  · rw [if_neg hs] at hw; cases hw
theorem resync_Cycle.calls (A0 : Option Addr) (c0 : Nat) (l0 : List (List SS)) (A1 : Option Addr) (c1 : Nat) (l1 : List (List XE)) (a2 : Int) (a3 : Int) (a4 : Int) (A5 : Option Addr) (c5 : Nat) (l5 : List Int) (r1 : Int) (r2 : Int) (r3 : Int) (r4 : List Int) (r5 : List WS) (r6 : Int) (w : World) (hr0 : Kd.C (Kd.slice 59 kSS) w A0 l0.length l0) (hc0 : l0.length ≤ c0) (hr1 : Kd.C (Kd.slice 61 kXE) w A1 l1.length l1) (hc1 : l1.length ≤ c1) (hr5 : Kd.C (Kd.int .i64) w A5 l5.length l5) (hc5 : l5.length ≤ c5) (h : resync_Cycle.f l0 l1 a2 a3 a4 l5 = some (r1, r2, r3, r4, r5, r6)) :
    Calls Tryz.prog 10 #[.slice A0 l0.length c0, .slice A1 l1.length c1, .int .i64 a2, .int .i64 a3, .int .i64 a4, .slice A5 l5.length c5] w fun e w' => ∃ v3_ v4_ : Value, e = .returned (.tuple #[.agg #[.int .i64 r1, .int .i64 r2, .int .i64 r3, v3_, v4_], .int .i64 r6]) ∧ Kd.R (Kd.int .i64) 3 w' w.heap.size (fun _ => True) v3_ r4 ∧ Kd.S kWS 66 w' w.heap.size (fun _ => True) v4_ r5 ∧ Below w.heap.size w w' := by
  unfold resync_Cycle.f at h
  by_cases hnk : ¬ (l0.length ≤ 1048576 ∧ okLs l1 ∧ l5.length ≤ 1048576)
  · rw [if_neg hnk] at h; cases h
  have hok := Decidable.not_not.1 hnk
  rw [if_pos hok] at h
  clear hnk
  simp only [Option.some.injEq] at h
  have hW := resync_Writes.calls A0 c0 l0 A1 c1 l1 (writesX l0 l1).1 (writesX l0 l1).2 (w.alloc (.cells #[.int .i64 0, .int .i64 0, .int .i64 0, .slice none 0 0, .slice none 0 0] 38)) (Kd.C_alloc hr0 _) hc0 (Kd.C_alloc hr1 _) hc1 (by unfold resync_Writes.f; rw [if_pos ⟨hok.1, hok.2.1⟩])
  have hshort := writes_short l0 l1
  unfold cycleX at h
  by_cases hw : (writesX l0 l1).2 = 0
  · rw [if_pos hw] at h
    rw [hw] at hW
    generalize (writesX l0 l1).1 = ws at hW h hshort
    obtain ⟨kf, hkf⟩ := (ev_cyccheck a2 a3 a4 l5 ws (lens l0) hshort).rounds
    have hCl := fun (W : World) (hW : Below w.heap.size w W) => slices_Clone_int.calls A5 c5 l5 W (C_step hr5 hW) hc5 hok.2.2
    have hEa := fun (W : World) (hW : Below w.heap.size w W) => each_seci.calls 32 #[] (fun _ x => (x.length : Int)) A0 c0 l0 W (enters_of Tryz.func32 (by kernel_rfl) rfl) (C_step hr0 hW) hc0 hok.1 (fun i x A' c' W2 _ _ _ _ _ => resync_Cycle_1.calls i A' x.length c' W2)
    have hCk := fun (Ap : Option Addr) (cp : Nat) (Aw : Option Addr) (cw : Nat) (As : Option Addr) (cs : Nat) (W : World) (h1 : Kd.C (Kd.int .i64) W Ap l5.length l5) (h2 : l5.length ≤ cp) (h3 : Kd.C kWS W Aw ws.length ws) (h4 : ws.length ≤ cw) (h5 : Kd.C (Kd.int .i64) W As (lens l0).length (lens l0)) (h6 : (lens l0).length ≤ cs) => cycle_Check.calls kf a2 a3 a4 Ap cp l5 Aw cw ws As cs (lens l0) _ W h1 h2 h3 h4 h5 h6 hkf
    simp only [mp_lens] at hEa
    clear hw hkf hshort hr0 hr1 hr5 hok
    by_cases hz : cycErr a2 a3 a4 l5 ws (lens l0) = 0
    · rw [if_pos hz] at h
      rw [hz] at hCk
      clear hz
      simp only [Prod.mk.injEq] at h
      obtain ⟨rfl, rfl, rfl, rfl, rfl, rfl⟩ := h
      generalize lens l0 = sz at hEa hCk
      go_enter Tryz.func10, Tryz.ntmps10
      go_wp2_with (first | (go_at_call 8; refine hW.mono ?_; rintro e w1 ⟨vw, rfl, h1, h2⟩; obtain ⟨Aw, cw, rfl⟩ := Kd.S_slice h1; have hk1 : w1.heap[w.heap.size]? = some (.cells #[.int .i64 0, .int .i64 0, .int .i64 0, .slice none 0 0, .slice none 0 0] 38 (0, 0)) := (h2.block _ (by simp)).trans (heap_alloc_new w _); have BK1 := Aside0.mk hk1; have n1 := Aside0.mk (below_then (below_alloc (Below.refl w.heap.size w) _) (by simp) h2); have o1 := Aside0.mk (Kd.S_lower h1 (show w.heap.size ≤ (w.alloc (.cells #[.int .i64 0, .int .i64 0, .int .i64 0, .slice none 0 0, .slice none 0 0] 38)).heap.size by simp)); have z0 : w1.cell? ⟨w.heap.size, 0, none⟩ = some (.int .i64 0) := (blk_cell hk1 0).trans rfl; have z1 : w1.cell? ⟨w.heap.size, 1, none⟩ = some (.int .i64 0) := (blk_cell hk1 1).trans rfl; have z2 : w1.cell? ⟨w.heap.size, 2, none⟩ = some (.int .i64 0) := (blk_cell hk1 2).trans rfl; have z3 : w1.cell? ⟨w.heap.size, 3, none⟩ = some (.slice none 0 0) := (blk_cell hk1 3).trans rfl; have z4 : w1.cell? ⟨w.heap.size, 4, none⟩ = some (.slice none 0 0) := (blk_cell hk1 4).trans rfl; have f0 := blk_frozen hk1 0; have f1 := blk_frozen hk1 1; have f2 := blk_frozen hk1 2; have f3 := blk_frozen hk1 3; have f4 := blk_frozen hk1 4; clear h1 h2 hk1) | (go_at_call 30; refine (hCl _ n1.out).mono ?_; rintro e w2 ⟨vp, rfl, h1, h2⟩; obtain ⟨Ap, cp, rfl⟩ := Kd.R_slice h1; have hk2 : w2.heap[w.heap.size]? = some (.cells #[.int .i64 0, .int .i64 0, .int .i64 0, .slice none 0 0, .slice none 0 0] 38 (0, 0)) := (h2.block _ (blk_lt BK1.out)).trans BK1.out; have BK2 := Aside0.mk hk2; have n2 := Aside0.mk (below_then n1.out n1.out.size h2); have o2 := Aside0.mk (Kd.S_below o1.out h2); have p2 := Aside0.mk (Kd.R_lower h1 n1.out.size); clear h1 h2 hk2) | (go_at_call 31; refine (hEa _ (below_alloc n2.out _)).mono ?_; rintro e w3 ⟨vs, rfl, h1, h2⟩; obtain ⟨As, cs, rfl, hcs, hCs⟩ := Kd.R_reads h1; have hk3 : w3.heap[w2.heap.size]? = some (.cells #[.int .i64 a2, .int .i64 a3, .int .i64 a4, .slice Ap l5.length cp, .slice Aw ws.length cw] 38 (0, 0)) := (h2.block _ (by simp)).trans (heap_alloc_new w2 _); have hb3 := below_then (below_alloc (Below.refl w2.heap.size w2) (.cells #[.int .i64 a2, .int .i64 a3, .int .i64 a4, .slice Ap l5.length cp, .slice Aw ws.length cw] 38)) (by simp) h2; have hk12 : w3.heap[w.heap.size]? = some (.cells #[.int .i64 0, .int .i64 0, .int .i64 0, .slice none 0 0, .slice none 0 0] 38 (0, 0)) := (hb3.block _ (blk_lt BK2.out)).trans BK2.out; have BK3 := Aside0.mk hk12; have BX3 := Aside0.mk hk3; have n3 := Aside0.mk (below_then n2.out n2.out.size hb3); have o3 := Aside0.mk (Kd.S_below o2.out hb3); have p3 := Aside0.mk (Kd.R_below p2.out hb3); have s3 := Aside0.mk hCs; have s4 := Aside0.mk hcs; have x0 : w3.cell? ⟨w2.heap.size, 0, none⟩ = some (.int .i64 a2) := (blk_cell hk3 0).trans rfl; have x1 : w3.cell? ⟨w2.heap.size, 1, none⟩ = some (.int .i64 a3) := (blk_cell hk3 1).trans rfl; have x2 : w3.cell? ⟨w2.heap.size, 2, none⟩ = some (.int .i64 a4) := (blk_cell hk3 2).trans rfl; have x3 : w3.cell? ⟨w2.heap.size, 3, none⟩ = some (.slice Ap l5.length cp) := (blk_cell hk3 3).trans rfl; have x4 : w3.cell? ⟨w2.heap.size, 4, none⟩ = some (.slice Aw ws.length cw) := (blk_cell hk3 4).trans rfl; clear h1 h2 hk3 hk12 hb3 hCs hcs) | (go_at_call 33; refine (hCk _ _ _ _ _ _ _ (Kd.R_reads' p3.out).2.2 (Kd.R_reads' p3.out).2.1 (Kd.S_reads' o3.out).2.2 (Kd.S_reads' o3.out).2.1 s3.out s4.out).mono ?_; rintro e w4 ⟨rfl, h2⟩; have hk4 : w4.heap[w2.heap.size]? = some (.cells #[.int .i64 a2, .int .i64 a3, .int .i64 a4, .slice Ap l5.length cp, .slice Aw ws.length cw] 38 (0, 0)) := (h2.block _ (blk_lt BX3.out)).trans BX3.out; have hk12 : w4.heap[w.heap.size]? = some (.cells #[.int .i64 0, .int .i64 0, .int .i64 0, .slice none 0 0, .slice none 0 0] 38 (0, 0)) := (h2.block _ (blk_lt BK3.out)).trans BK3.out; have BK4 := Aside0.mk hk12; have n4 := Aside0.mk (below_then n3.out n3.out.size h2); have o4 := Aside0.mk (Kd.S_below o3.out h2); have p4 := Aside0.mk (Kd.R_below p3.out h2); clear x0 x1 x2 x3 x4 z0 z1 z2 z3 z4 f0 f1 f2 f3 f4; have y0 : w4.cell? ⟨w2.heap.size, 0, none⟩ = some (.int .i64 a2) := (blk_cell hk4 0).trans rfl; have y1 : w4.cell? ⟨w2.heap.size, 1, none⟩ = some (.int .i64 a3) := (blk_cell hk4 1).trans rfl; have y2 : w4.cell? ⟨w2.heap.size, 2, none⟩ = some (.int .i64 a4) := (blk_cell hk4 2).trans rfl; have y3 : w4.cell? ⟨w2.heap.size, 3, none⟩ = some (.slice Ap l5.length cp) := (blk_cell hk4 3).trans rfl; have y4 : w4.cell? ⟨w2.heap.size, 4, none⟩ = some (.slice Aw ws.length cw) := (blk_cell hk4 4).trans rfl; have z0 : w4.cell? ⟨w.heap.size, 0, none⟩ = some (.int .i64 0) := (blk_cell hk12 0).trans rfl; have z1 : w4.cell? ⟨w.heap.size, 1, none⟩ = some (.int .i64 0) := (blk_cell hk12 1).trans rfl; have z2 : w4.cell? ⟨w.heap.size, 2, none⟩ = some (.int .i64 0) := (blk_cell hk12 2).trans rfl; have z3 : w4.cell? ⟨w.heap.size, 3, none⟩ = some (.slice none 0 0) := (blk_cell hk12 3).trans rfl; have z4 : w4.cell? ⟨w.heap.size, 4, none⟩ = some (.slice none 0 0) := (blk_cell hk12 4).trans rfl; have f0 := blk_frozen hk12 0; have f1 := blk_frozen hk12 1; have f2 := blk_frozen hk12 2; have f3 := blk_frozen hk12 3; have f4 := blk_frozen hk12 4; clear h2 hk4 hk12))
      refine bodyPost_ret (results_ct rfl _ _ w.heap.size 38 #[.int .i64 a2, .int .i64 a3, .int .i64 a4, .slice Ap l5.length cp, .slice Aw ws.length cw] (0, 0) _ rfl (by refine blk_put (cs := #[.int .i64 a2, .int .i64 a3, .int .i64 a4, .slice Ap l5.length cp, .slice none 0 0]) ?_ 4 _ rfl; refine blk_put (cs := #[.int .i64 a2, .int .i64 a3, .int .i64 a4, .slice none 0 0, .slice none 0 0]) ?_ 3 _ rfl; refine blk_put (cs := #[.int .i64 a2, .int .i64 a3, .int .i64 0, .slice none 0 0, .slice none 0 0]) ?_ 2 _ rfl; refine blk_put (cs := #[.int .i64 a2, .int .i64 0, .int .i64 0, .slice none 0 0, .slice none 0 0]) ?_ 1 _ rfl; refine blk_put (cs := #[.int .i64 0, .int .i64 0, .int .i64 0, .slice none 0 0, .slice none 0 0]) ?_ 0 _ rfl; exact BK4.out) Tryz.underlying38 rfl (by kernel_rfl)) rfl ?_
      exact ⟨_, _, rfl, (Kd.R_mono (Kd.R_far (p := ⟨w.heap.size, 4, none⟩) (Kd.R_far (p := ⟨w.heap.size, 3, none⟩) (Kd.R_far (p := ⟨w.heap.size, 2, none⟩) (Kd.R_far (p := ⟨w.heap.size, 1, none⟩) (Kd.R_far (p := ⟨w.heap.size, 0, none⟩) (Kd.R_types p4.out BK4.out (by decide)) (fun _ hk => hk.2) (.int .i64 a2)) (fun _ hk => hk.2) (.int .i64 a3)) (fun _ hk => hk.2) (.int .i64 a4)) (fun _ hk => hk.2) (.slice Ap l5.length cp)) (fun _ hk => hk.2) (.slice Aw ws.length cw)) (fun _ _ => trivial)), (Kd.S_mono (Kd.S_far (p := ⟨w.heap.size, 4, none⟩) (Kd.S_far (p := ⟨w.heap.size, 3, none⟩) (Kd.S_far (p := ⟨w.heap.size, 2, none⟩) (Kd.S_far (p := ⟨w.heap.size, 1, none⟩) (Kd.S_far (p := ⟨w.heap.size, 0, none⟩) (Kd.S_types o4.out BK4.out (by decide)) (fun _ hk => hk.2) (.int .i64 a2)) (fun _ hk => hk.2) (.int .i64 a3)) (fun _ hk => hk.2) (.int .i64 a4)) (fun _ hk => hk.2) (.slice Ap l5.length cp)) (fun _ hk => hk.2) (.slice Aw ws.length cw)) (fun _ _ => trivial)), (by repeat (first | (with_reducible first | exact n4.out | refine below_set ?_ (Nat.le_refl _)) | exact n4.out))⟩
    · rw [if_neg hz] at h
      simp only [Prod.mk.injEq] at h
      have q1 : (cycErr a2 a3 a4 l5 ws (lens l0) == 0) = false := by simpa using hz
      have q2 : (cycErr a2 a3 a4 l5 ws (lens l0) != 0) = true := by simpa using hz
      have q3 : decide (cycErr a2 a3 a4 l5 ws (lens l0) = 0) = false := by simpa using hz
      obtain ⟨rfl, rfl, rfl, rfl, rfl, rfl⟩ := h
      clear hz
      generalize cycErr a2 a3 a4 l5 ws (lens l0) = fx at hCk q1 q2 q3
      generalize lens l0 = sz at hEa hCk
      go_enter Tryz.func10, Tryz.ntmps10
      go_wp2_with (first | (go_at_call 8; refine hW.mono ?_; rintro e w1 ⟨vw, rfl, h1, h2⟩; obtain ⟨Aw, cw, rfl⟩ := Kd.S_slice h1; have hk1 : w1.heap[w.heap.size]? = some (.cells #[.int .i64 0, .int .i64 0, .int .i64 0, .slice none 0 0, .slice none 0 0] 38 (0, 0)) := (h2.block _ (by simp)).trans (heap_alloc_new w _); have BK1 := Aside0.mk hk1; have n1 := Aside0.mk (below_then (below_alloc (Below.refl w.heap.size w) _) (by simp) h2); have o1 := Aside0.mk (Kd.S_lower h1 (show w.heap.size ≤ (w.alloc (.cells #[.int .i64 0, .int .i64 0, .int .i64 0, .slice none 0 0, .slice none 0 0] 38)).heap.size by simp)); have z0 : w1.cell? ⟨w.heap.size, 0, none⟩ = some (.int .i64 0) := (blk_cell hk1 0).trans rfl; have z1 : w1.cell? ⟨w.heap.size, 1, none⟩ = some (.int .i64 0) := (blk_cell hk1 1).trans rfl; have z2 : w1.cell? ⟨w.heap.size, 2, none⟩ = some (.int .i64 0) := (blk_cell hk1 2).trans rfl; have z3 : w1.cell? ⟨w.heap.size, 3, none⟩ = some (.slice none 0 0) := (blk_cell hk1 3).trans rfl; have z4 : w1.cell? ⟨w.heap.size, 4, none⟩ = some (.slice none 0 0) := (blk_cell hk1 4).trans rfl; have f0 := blk_frozen hk1 0; have f1 := blk_frozen hk1 1; have f2 := blk_frozen hk1 2; have f3 := blk_frozen hk1 3; have f4 := blk_frozen hk1 4; clear h1 h2 hk1) | (go_at_call 30; refine (hCl _ n1.out).mono ?_; rintro e w2 ⟨vp, rfl, h1, h2⟩; obtain ⟨Ap, cp, rfl⟩ := Kd.R_slice h1; have hk2 : w2.heap[w.heap.size]? = some (.cells #[.int .i64 0, .int .i64 0, .int .i64 0, .slice none 0 0, .slice none 0 0] 38 (0, 0)) := (h2.block _ (blk_lt BK1.out)).trans BK1.out; have BK2 := Aside0.mk hk2; have n2 := Aside0.mk (below_then n1.out n1.out.size h2); have o2 := Aside0.mk (Kd.S_below o1.out h2); have p2 := Aside0.mk (Kd.R_lower h1 n1.out.size); clear h1 h2 hk2) | (go_at_call 31; refine (hEa _ (below_alloc n2.out _)).mono ?_; rintro e w3 ⟨vs, rfl, h1, h2⟩; obtain ⟨As, cs, rfl, hcs, hCs⟩ := Kd.R_reads h1; have hk3 : w3.heap[w2.heap.size]? = some (.cells #[.int .i64 a2, .int .i64 a3, .int .i64 a4, .slice Ap l5.length cp, .slice Aw ws.length cw] 38 (0, 0)) := (h2.block _ (by simp)).trans (heap_alloc_new w2 _); have hb3 := below_then (below_alloc (Below.refl w2.heap.size w2) (.cells #[.int .i64 a2, .int .i64 a3, .int .i64 a4, .slice Ap l5.length cp, .slice Aw ws.length cw] 38)) (by simp) h2; have hk12 : w3.heap[w.heap.size]? = some (.cells #[.int .i64 0, .int .i64 0, .int .i64 0, .slice none 0 0, .slice none 0 0] 38 (0, 0)) := (hb3.block _ (blk_lt BK2.out)).trans BK2.out; have BK3 := Aside0.mk hk12; have BX3 := Aside0.mk hk3; have n3 := Aside0.mk (below_then n2.out n2.out.size hb3); have o3 := Aside0.mk (Kd.S_below o2.out hb3); have p3 := Aside0.mk (Kd.R_below p2.out hb3); have s3 := Aside0.mk hCs; have s4 := Aside0.mk hcs; have x0 : w3.cell? ⟨w2.heap.size, 0, none⟩ = some (.int .i64 a2) := (blk_cell hk3 0).trans rfl; have x1 : w3.cell? ⟨w2.heap.size, 1, none⟩ = some (.int .i64 a3) := (blk_cell hk3 1).trans rfl; have x2 : w3.cell? ⟨w2.heap.size, 2, none⟩ = some (.int .i64 a4) := (blk_cell hk3 2).trans rfl; have x3 : w3.cell? ⟨w2.heap.size, 3, none⟩ = some (.slice Ap l5.length cp) := (blk_cell hk3 3).trans rfl; have x4 : w3.cell? ⟨w2.heap.size, 4, none⟩ = some (.slice Aw ws.length cw) := (blk_cell hk3 4).trans rfl; clear h1 h2 hk3 hk12 hb3 hCs hcs) | (go_at_call 33; refine (hCk _ _ _ _ _ _ _ (Kd.R_reads' p3.out).2.2 (Kd.R_reads' p3.out).2.1 (Kd.S_reads' o3.out).2.2 (Kd.S_reads' o3.out).2.1 s3.out s4.out).mono ?_; rintro e w4 ⟨rfl, h2⟩; have hk4 : w4.heap[w2.heap.size]? = some (.cells #[.int .i64 a2, .int .i64 a3, .int .i64 a4, .slice Ap l5.length cp, .slice Aw ws.length cw] 38 (0, 0)) := (h2.block _ (blk_lt BX3.out)).trans BX3.out; have hk12 : w4.heap[w.heap.size]? = some (.cells #[.int .i64 0, .int .i64 0, .int .i64 0, .slice none 0 0, .slice none 0 0] 38 (0, 0)) := (h2.block _ (blk_lt BK3.out)).trans BK3.out; have BK4 := Aside0.mk hk12; have n4 := Aside0.mk (below_then n3.out n3.out.size h2); have o4 := Aside0.mk (Kd.S_below o3.out h2); have p4 := Aside0.mk (Kd.R_below p3.out h2); clear x0 x1 x2 x3 x4 z0 z1 z2 z3 z4 f0 f1 f2 f3 f4; have y0 : w4.cell? ⟨w2.heap.size, 0, none⟩ = some (.int .i64 a2) := (blk_cell hk4 0).trans rfl; have y1 : w4.cell? ⟨w2.heap.size, 1, none⟩ = some (.int .i64 a3) := (blk_cell hk4 1).trans rfl; have y2 : w4.cell? ⟨w2.heap.size, 2, none⟩ = some (.int .i64 a4) := (blk_cell hk4 2).trans rfl; have y3 : w4.cell? ⟨w2.heap.size, 3, none⟩ = some (.slice Ap l5.length cp) := (blk_cell hk4 3).trans rfl; have y4 : w4.cell? ⟨w2.heap.size, 4, none⟩ = some (.slice Aw ws.length cw) := (blk_cell hk4 4).trans rfl; have z0 : w4.cell? ⟨w.heap.size, 0, none⟩ = some (.int .i64 0) := (blk_cell hk12 0).trans rfl; have z1 : w4.cell? ⟨w.heap.size, 1, none⟩ = some (.int .i64 0) := (blk_cell hk12 1).trans rfl; have z2 : w4.cell? ⟨w.heap.size, 2, none⟩ = some (.int .i64 0) := (blk_cell hk12 2).trans rfl; have z3 : w4.cell? ⟨w.heap.size, 3, none⟩ = some (.slice none 0 0) := (blk_cell hk12 3).trans rfl; have z4 : w4.cell? ⟨w.heap.size, 4, none⟩ = some (.slice none 0 0) := (blk_cell hk12 4).trans rfl; have f0 := blk_frozen hk12 0; have f1 := blk_frozen hk12 1; have f2 := blk_frozen hk12 2; have f3 := blk_frozen hk12 3; have f4 := blk_frozen hk12 4; clear h2 hk4 hk12))
      refine bodyPost_ret (results_ct rfl _ _ w.heap.size 38 #[.int .i64 0, .int .i64 0, .int .i64 0, .slice none 0 0, .slice none 0 0] (0, 0) _ rfl (by refine blk_put (cs := #[.int .i64 0, .int .i64 0, .int .i64 0, .slice none 0 0, .slice none 0 0]) ?_ 4 _ rfl; refine blk_put (cs := #[.int .i64 0, .int .i64 0, .int .i64 0, .slice none 0 0, .slice none 0 0]) ?_ 3 _ rfl; refine blk_put (cs := #[.int .i64 0, .int .i64 0, .int .i64 0, .slice none 0 0, .slice none 0 0]) ?_ 2 _ rfl; refine blk_put (cs := #[.int .i64 0, .int .i64 0, .int .i64 0, .slice none 0 0, .slice none 0 0]) ?_ 1 _ rfl; refine blk_put (cs := #[.int .i64 0, .int .i64 0, .int .i64 0, .slice none 0 0, .slice none 0 0]) ?_ 0 _ rfl; exact BK4.out) Tryz.underlying38 rfl (by kernel_rfl)) rfl ?_
      exact ⟨_, _, rfl, Kd.R_nil _ _ _ _ _, Kd.S_nil _ _ _ _ _, (by repeat (first | (with_reducible first | exact n4.out | refine below_set ?_ (Nat.le_refl _)) | exact n4.out))⟩
  · rw [if_neg hw] at h
    have q1 : ((writesX l0 l1).2 == 0) = false := by simpa using hw
    have q2 : ((writesX l0 l1).2 != 0) = true := by simpa using hw
    have q3 : decide ((writesX l0 l1).2 = 0) = false := by simpa using hw
    simp only [Prod.mk.injEq] at h
    obtain ⟨rfl, rfl, rfl, rfl, rfl, rfl⟩ := h
    generalize (writesX l0 l1).2 = fx at hW q1 q2 q3
    generalize (writesX l0 l1).1 = ws at hW
    clear hw hshort hr0 hr1 hr5 hok
    go_enter Tryz.func10, Tryz.ntmps10
    go_wp2_with (go_at_call 8; refine hW.mono ?_; rintro e w1 ⟨vw, rfl, h1, h2⟩; obtain ⟨Aw, cw, rfl⟩ := Kd.S_slice h1; have hk1 : w1.heap[w.heap.size]? = some (.cells #[.int .i64 0, .int .i64 0, .int .i64 0, .slice none 0 0, .slice none 0 0] 38 (0, 0)) := (h2.block _ (by simp)).trans (heap_alloc_new w _); have BK1 := Aside0.mk hk1; have n1 := Aside0.mk (below_then (below_alloc (Below.refl w.heap.size w) _) (by simp) h2); have o1 := Aside0.mk (Kd.S_lower h1 (show w.heap.size ≤ (w.alloc (.cells #[.int .i64 0, .int .i64 0, .int .i64 0, .slice none 0 0, .slice none 0 0] 38)).heap.size by simp)); have z0 : w1.cell? ⟨w.heap.size, 0, none⟩ = some (.int .i64 0) := (blk_cell hk1 0).trans rfl; have z1 : w1.cell? ⟨w.heap.size, 1, none⟩ = some (.int .i64 0) := (blk_cell hk1 1).trans rfl; have z2 : w1.cell? ⟨w.heap.size, 2, none⟩ = some (.int .i64 0) := (blk_cell hk1 2).trans rfl; have z3 : w1.cell? ⟨w.heap.size, 3, none⟩ = some (.slice none 0 0) := (blk_cell hk1 3).trans rfl; have z4 : w1.cell? ⟨w.heap.size, 4, none⟩ = some (.slice none 0 0) := (blk_cell hk1 4).trans rfl; have f0 := blk_frozen hk1 0; have f1 := blk_frozen hk1 1; have f2 := blk_frozen hk1 2; have f3 := blk_frozen hk1 3; have f4 := blk_frozen hk1 4; clear h1 h2 hk1)
    refine bodyPost_ret (results_ct rfl _ _ w.heap.size 38 #[.int .i64 0, .int .i64 0, .int .i64 0, .slice none 0 0, .slice none 0 0] (0, 0) _ rfl (by refine blk_put (cs := #[.int .i64 0, .int .i64 0, .int .i64 0, .slice none 0 0, .slice none 0 0]) ?_ 4 _ rfl; refine blk_put (cs := #[.int .i64 0, .int .i64 0, .int .i64 0, .slice none 0 0, .slice none 0 0]) ?_ 3 _ rfl; refine blk_put (cs := #[.int .i64 0, .int .i64 0, .int .i64 0, .slice none 0 0, .slice none 0 0]) ?_ 2 _ rfl; refine blk_put (cs := #[.int .i64 0, .int .i64 0, .int .i64 0, .slice none 0 0, .slice none 0 0]) ?_ 1 _ rfl; refine blk_put (cs := #[.int .i64 0, .int .i64 0, .int .i64 0, .slice none 0 0, .slice none 0 0]) ?_ 0 _ rfl; exact BK1.out) Tryz.underlying38 rfl (by kernel_rfl)) rfl ?_
    exact ⟨_, _, rfl, Kd.R_nil _ _ _ _ _, Kd.S_nil _ _ _ _ _, (by repeat (first | (with_reducible first | exact n1.out | refine below_set ?_ (Nat.le_refl _)) | exact n1.out))⟩
end Go.Proofs.YtdplnbmioioniaaGreat.Pq
end
section
namespace Go.Proofs.YtdplnbmioioniaaGreat.Pq
open Go.RowKit Go.Proofs.YtdplnbmioioniaaGreatW.PrintWords Go.Proofs.YtdplnbmioioniaaGreatW.PrintLast Go.Proofs.YtdplnbmioioniaaGreatW.PrintMore
attribute [local go_sem] max2_int min2_int max_two min_two max_three min_three max_four min_four
set_option linter.unusedVariables false
set_option linter.unusedSimpArgs false
mutual
def standbyref45_FewLists.l0 : Nat → List (List (S61)) → Int → Option (Bool)
  | 0, _, _ => none
  | k + 1, x0, x3 => if x3 < (x0.length : Int) then (standbyref45_FewLists.j1 k x0 x3 (decide (x3 < 20))) else (standbyref45_FewLists.j1 k x0 x3 false)
def standbyref45_FewLists.j1 : Nat → List (List (S61)) → Int → Bool → Option (Bool)
  | 0, _, _, _ => none
  | k + 1, x0, x3, x11 => if x11 = true then (if 0 ≤ x3 then (if x3 < (x0.length : Int) then (if ((rd_L7 x0 x3).length : Int) > 40 then (some false) else (standbyref45_FewLists.l0 k x0 (wrap64 (x3 + 1)))) else (none)) else (none)) else (some (decide ((x0.length : Int) ≤ 20)))
end
def standbyref45_FewLists.f (k : Nat) (l0 : List (List (S61))) : Option (Bool) := standbyref45_FewLists.l0 k l0 0
set_option maxHeartbeats 8000000 in
set_option maxRecDepth 100000 in
theorem standbyref45_FewLists.calls (k : Nat) (A0 : Option Addr) (c0 : Nat) (l0 : List (List (S61))) (r : Bool) (w : World) (hr0 : Kd.C (Kd.slice 61 k61) w A0 l0.length l0) (hc0 : l0.length ≤ c0) (h : standbyref45_FewLists.f k l0 = some r) :
    Calls Tryz.prog 6 #[.slice A0 l0.length c0] w fun e w' => e = .returned (.bool r) ∧ Drawn0 w w' := by
  have HR0 := Aside0.mk hr0
  have HC0 := Aside0.mk hc0
  clear hr0 hc0
  have H : (standbyref45_FewLists.l0 k l0 0) = some r := h
  clear h
  have H' := Aside0.mk H
  clear H
  go_enter Tryz.func6, Tryz.ntmps6
  go_wp2
  go_loopg [3] k (fun kq v3 w' => ∃ (x3_1 : Int), v3 = .int .i64 x3_1 ∧ Aside0 (standbyref45_FewLists.l0 kq l0 x3_1 = some r) ∧ Aside0 (kq ≤ k) ∧ Drawn0 w w')
  case atStart => exact ⟨(0), (by first | rfl | (simp; done) | (simp [*]; done)), H', ⟨Nat.le_refl _⟩, by repeat (first | exact Drawn0.refl _ | apply Drawn0.step)⟩
  case round =>
    clear H'
    obtain ⟨x3_1, rfl, HA, HK1, ⟨m1, rfl⟩⟩ := hrel
    cases gk with
    | zero => exact absurd HA.out (by simp [standbyref45_FewLists.l0])
    | succ k1 =>
      have H := HA.out
      clear HA
      simp only [standbyref45_FewLists.l0] at H
      have HC2 := Aside0.mk H
      clear H
      go_upto_region 2 with (fail)
      go_cut [11] (fun v11 wc => ∃ (kq : Nat) (x11_1 : Bool), v11 = .bool x11_1 ∧ Aside0 (standbyref45_FewLists.j1 kq l0 x3_1 x11_1 = some r) ∧ Aside0 (kq ≤ k1) ∧ Drawn0 w wc)
      case first =>
        have H := HC2.out
        clear HC2
        by_cases c3 : x3_1 < (l0.length : Int)
        · rw [if_pos c3] at H
          have c3b0 : decide (x3_1 < (l0.length : Int)) = true := decide_eq_true c3
          clear c3
          (first | rw [c3b0] | (simp only [i64_w, i32_w]; rw [c3b0]) | skip)
          have H' := Aside0.mk H
          clear H
          go_wp2
          go_meet
          case rel => exact ⟨_, (decide (x3_1 < 20)), (by first | rfl | (simp; done) | (simp [*]; done)), H', ⟨by have := HK1.out; first | omega | exact Nat.le_refl _⟩, by repeat (first | exact Drawn0.refl _ | apply Drawn0.step)⟩
        · rw [if_neg c3] at H
          have c3b0 : decide (x3_1 < (l0.length : Int)) = false := decide_eq_false c3
          clear c3
          (first | rw [c3b0] | (simp only [i64_w, i32_w]; rw [c3b0]) | skip)
          have H' := Aside0.mk H
          clear H
          go_wp2
          go_meet
          case rel => exact ⟨_, (false), (by first | rfl | (simp; done) | (simp [*]; done)), H', ⟨by have := HK1.out; first | omega | exact Nat.le_refl _⟩, by repeat (first | exact Drawn0.refl _ | apply Drawn0.step)⟩
      case rest =>
        clear HC2
        try clear p2
        try clear c3
        try clear c3b0
        obtain ⟨kq, x11_1, rfl, HA, HJ1, ⟨mc1, rfl⟩⟩ := hcut
        cases kq with
        | zero => exact absurd HA.out (by simp [standbyref45_FewLists.j1])
        | succ kj1 =>
          have H := HA.out
          clear HA
          simp only [standbyref45_FewLists.j1] at H
          by_cases c4 : x11_1 = true
          · subst c4
            have H1 : (if 0 ≤ x3_1 then (if x3_1 < (l0.length : Int) then (if ((rd_L7 l0 x3_1).length : Int) > 40 then (some false) else (standbyref45_FewLists.l0 kj1 l0 (wrap64 (x3_1 + 1)))) else (none)) else (none)) = some r := by rw [if_pos rfl] at H; exact H
            clear H
            have H := H1
            clear H1
            by_cases c5 : 0 ≤ x3_1
            · rw [if_pos c5] at H
              have c5b0 : decide (0 ≤ x3_1) = true := decide_eq_true c5
              clear c5
              by_cases c6 : x3_1 < (l0.length : Int)
              · rw [if_pos c6] at H
                have c6b0 : decide (x3_1 < (l0.length : Int)) = true := decide_eq_true c6
                clear c6
                by_cases c7 : ((rd_L7 l0 x3_1).length : Int) > 40
                · rw [if_pos c7] at H
                  have c7b0 : decide (40 < ((rd_L7 l0 x3_1).length : Int)) = true := decide_eq_true c7
                  have c7b1 : decide (40 < (rd_L7 l0 x3_1).length) = true := decide_eq_true (by omega)
                  clear c7
                  obtain rfl := Option.some.inj H
                  have p264 : 0 ≤ (x3_1 : Int) := of_decide_eq_true (by first | (with_reducible assumption) | assumption)
                  have q264 : x3_1 < (l0.length : Int) := of_decide_eq_true (by first | (with_reducible assumption) | assumption)
                  obtain ⟨ad264, A264_0, c264_0, e264, hx264_0, hl264_0, hi264_0⟩ := at_L7 HR0.out x3_1 p264 q264
                  cases e264
                  have HR264_0 := Aside0.mk hi264_0
                  have HC264_0 := Aside0.mk hl264_0
                  clear hi264_0 hl264_0
                  replace p264 := eq_true p264
                  replace q264 := eq_true q264
                  go_wp2
                  go_ret
                  exact ⟨by first | rfl | (simp; done) | (simp [*]; done), by repeat (first | exact Drawn0.refl _ | apply Drawn0.step)⟩
                · rw [if_neg c7] at H
                  have c7b0 : decide (40 < ((rd_L7 l0 x3_1).length : Int)) = false := decide_eq_false c7
                  have c7b1 : decide (40 < (rd_L7 l0 x3_1).length) = false := decide_eq_false (by omega)
                  clear c7
                  have H' := Aside0.mk H
                  clear H
                  have p264 : 0 ≤ (x3_1 : Int) := of_decide_eq_true (by first | (with_reducible assumption) | assumption)
                  have q264 : x3_1 < (l0.length : Int) := of_decide_eq_true (by first | (with_reducible assumption) | assumption)
                  obtain ⟨ad264, A264_0, c264_0, e264, hx264_0, hl264_0, hi264_0⟩ := at_L7 HR0.out x3_1 p264 q264
                  cases e264
                  have HR264_0 := Aside0.mk hi264_0
                  have HC264_0 := Aside0.mk hl264_0
                  clear hi264_0 hl264_0
                  replace p264 := eq_true p264
                  replace q264 := eq_true q264
                  go_wp2
                  go_roundg kj1
                  case measure => have := HK1.out; have := HJ1.out; omega
                  case rel => exact ⟨(wrap64 (x3_1 + 1)), (by first | rfl | (simp; done) | (simp [*]; done)), H', ⟨by have := HK1.out; have := HJ1.out; omega⟩, by repeat (first | exact Drawn0.refl _ | apply Drawn0.step)⟩
              · rw [if_neg c6] at H
                exact absurd H (by simp)
            · rw [if_neg c5] at H
              exact absurd H (by simp)
          · replace c4 := Bool.eq_false_iff.mpr c4
            subst c4
            have H1 : (some (decide ((l0.length : Int) ≤ 20))) = some r := by rw [if_neg (show ¬ (false = true) by decide)] at H; exact H
            clear H
            have H := H1
            clear H1
            obtain rfl := Option.some.inj H
            go_wp2
            go_ret
            exact ⟨by first | rfl | (simp; done) | (simp [*]; done), by repeat (first | exact Drawn0.refl _ | apply Drawn0.step)⟩
def standbyref07_SizesOf.l0 : Nat → List (List (S59)) → List Int → Int → Option (List Int)
  | 0, _, _, _ => none
  | k + 1, x0, x3, x4 => if x4 < (x0.length : Int) then (if 0 ≤ x4 then (if x3.length < 17592186044416 then (standbyref07_SizesOf.l0 k x0 (x3 ++ [((rd_L2 x0 x4).length : Int)]) (wrap64 (x4 + 1))) else (none)) else (none)) else (some x3)
def standbyref07_SizesOf.f (k : Nat) (l0 : List (List (S59))) : Option (List Int) := standbyref07_SizesOf.l0 k l0 ([] : List Int) 0
set_option maxHeartbeats 8000000 in
set_option maxRecDepth 100000 in
theorem standbyref07_SizesOf.calls (k : Nat) (A0 : Option Addr) (c0 : Nat) (l0 : List (List (S59))) (r : List Int) (w : World) (hr0 : Kd.C (Kd.slice 59 k59) w A0 l0.length l0) (hc0 : l0.length ≤ c0) (h : standbyref07_SizesOf.f k l0 = some r) :
    Calls Tryz.prog 35 #[.slice A0 l0.length c0] w fun e w' => ∃ v0_ : Value, e = .returned (v0_) ∧ Kd.R (Kd.int .i64) 3 w' w.heap.size (fun _ => True) v0_ r ∧ Below w.heap.size w w' := by
  have HR0 := Aside0.mk hr0
  have HC0 := Aside0.mk hc0
  clear hr0 hc0
  have HB := Aside0.mk (Below.refl w.heap.size w)
  have H : (standbyref07_SizesOf.l0 k l0 ([] : List Int) 0) = some r := h
  clear h
  have H' := Aside0.mk H
  clear H
  go_enter Tryz.func35, Tryz.ntmps35
  go_wp2
  go_loopg [3, 4] k (fun kq v3 v4 w' => ∃ (x3_1 : List Int) (x4_1 : Int), v4 = .int .i64 x4_1 ∧ Aside0 (standbyref07_SizesOf.l0 kq l0 x3_1 x4_1 = some r) ∧ Aside0 (kq ≤ k) ∧ Aside0 (Kd.R (Kd.int .i64) 3 w' w.heap.size (fun _ => True) v3 x3_1) ∧ Aside0 (Below w.heap.size w w'))
  case atStart => exact ⟨(([] : List Int)), (0), (by first | rfl | (simp; done) | (simp [*]; done)), H', ⟨Nat.le_refl _⟩, ⟨by first | exact Kd.R_nil _ _ _ _ _ | exact Kd.N_nil _ _ _ _ _ | exact Kd.V_nil _ _ _ _ _ | exact Kd.Q_nil _ _ _ _ _ | exact Kd.S_nil _ _ _ _ _⟩, ⟨zb HB⟩⟩
  case round =>
    clear H'
    obtain ⟨x3_1, x4_1, rfl, HA, HK1, HO_3, HB⟩ := hrel
    cases gk with
    | zero => exact absurd HA.out (by simp [standbyref07_SizesOf.l0])
    | succ k1 =>
      have H := HA.out
      clear HA
      simp only [standbyref07_SizesOf.l0] at H
      by_cases c2 : x4_1 < (l0.length : Int)
      · rw [if_pos c2] at H
        have c2b0 : decide (x4_1 < (l0.length : Int)) = true := decide_eq_true c2
        clear c2
        by_cases c3 : 0 ≤ x4_1
        · rw [if_pos c3] at H
          have c3b0 : decide (0 ≤ x4_1) = true := decide_eq_true c3
          clear c3
          by_cases c4 : x3_1.length < 17592186044416
          · rw [if_pos c4] at H
            have LMc4 := Aside0.mk c4
            clear c4
            obtain ⟨y266, hy266⟩ : ∃ y_ : List Int, y_ = (x3_1 ++ [((rd_L2 l0 x4_1).length : Int)]) := ⟨_, rfl⟩
            replace H : (standbyref07_SizesOf.l0 k1 l0 y266 (wrap64 (x4_1 + 1))) = some r := by first | (rw [hy266]; with_reducible exact H) | (have H2_ := (Option.bind_some _ _).symm.trans H; rw [hy266]; with_reducible exact H2_) | (have H2_ := (Option.bind_some _ _).symm.trans H; with_reducible exact H2_) | with_reducible exact H | (rw [hy266]; exact H) | exact H
            have Ny266 := Aside0.mk hy266
            clear hy266
            have H' := Aside0.mk H
            clear H
            have p265 : 0 ≤ (x4_1 : Int) := of_decide_eq_true (by first | (with_reducible assumption) | assumption)
            have q265 : x4_1 < (l0.length : Int) := of_decide_eq_true (by first | (with_reducible assumption) | assumption)
            obtain ⟨ad265, A265_0, c265_0, e265, hx265_0, hl265_0, hi265_0⟩ := at_L2 HR0.out x4_1 p265 q265
            cases e265
            replace hx265_0 := (HB.out.cell (World.block_lt_of_cell? w _ hx265_0)).trans hx265_0
            have HR265_0 := Aside0.mk hi265_0
            have HC265_0 := Aside0.mk hl265_0
            clear hi265_0 hl265_0
            replace p265 := eq_true p265
            replace q265 := eq_true q265
            go_wp2_with (first | ((with_reducible refine gate_builtin (b := .append) (xs := #[.tmp 11, .tmp 17]) rfl ?_); at_builtin; refine Kd.R_append (Kd.int .i64) (w0 := w) w.heap.size rfl (.tmp 11) (.tmp 17) 25 3 (.int .i64 0) 8 rfl Tryz.underlying25 info3 rfl (by decide) (by omega) u3 x3_1 ((rd_L2 l0 x4_1).length : Int) [.int .i64 ((rd_L2 l0 x4_1).length : Int)] (fun _ => True) (fun _ => False) rfl rfl ?aP (fun _ hk => hk.elim) ?aF ?aO ?aB ?aS ?aL ?_; (case aP => exact rfl); (case aB => exact (zb HB)); (case aF => exact (fun _ _ => trivial)); (case aO => exact (zr HO_3.out)); (case aS => exact (below_size (zb HB))); (case aL => have := LMc4.out; omega); intro v267 w5 ho hb hg hat; rw [← Ny266.out] at ho; have n0_ := Aside0.mk (hb); have n1_ := Aside0.mk (ho); clear HB; clear HO_3; have HB := n0_; have HO268 := n1_; clear n0_ n1_; clear ho hb hg hat))
            go_roundg k1
            case measure => have := HK1.out; omega
            case rel => exact ⟨(y266), (wrap64 (x4_1 + 1)), (by first | rfl | (simp; done) | (simp [*]; done)), H', ⟨by have := HK1.out; omega⟩, ⟨by (with_reducible repeat (first | apply Kd.R_alloc | apply Kd.R_drewN | apply Kd.R_drew)); exact HO268.out⟩, ⟨zb HB⟩⟩
          · rw [if_neg c4] at H
            exact absurd H (by simp)
        · rw [if_neg c3] at H
          exact absurd H (by simp)
      · rw [if_neg c2] at H
        have c2b0 : decide (x4_1 < (l0.length : Int)) = false := decide_eq_false c2
        clear c2
        obtain rfl := Option.some.inj H
        go_wp2
        go_ret
        exact ⟨_, by first | rfl | (simp [errW_none, errW_some] <;> rfl) | (simp [*, errW_none, errW_some] <;> rfl), by (with_reducible repeat (first | apply Kd.R_alloc | apply Kd.R_drewN | apply Kd.R_drew)); exact HO_3.out, zb HB⟩
mutual
def standbyref07_Sizes.j0 : Nat → List Int → Bool → Option (Int)
  | 0, _, _ => none
  | k + 1, x0, x11 => if x11 = true then (some 6) else (standbyref07_Sizes.l0 k x0 0)
def standbyref07_Sizes.l0 : Nat → List Int → Int → Option (Int)
  | 0, _, _ => none
  | k + 1, x0, x3 => if x3 < (x0.length : Int) then (if 0 ≤ x3 then (if (rd x0 x3) < 1 then (some 2) else (if (rd x0 x3) > 4096 then (some 2) else (standbyref07_Sizes.l0 k x0 (wrap64 (x3 + 1))))) else (none)) else (some 0)
end
def standbyref07_Sizes.f (k : Nat) (l0 : List Int) : Option (Int) := if (l0.length : Int) < 1 then (standbyref07_Sizes.j0 k l0 true) else (standbyref07_Sizes.j0 k l0 (decide ((l0.length : Int) > 8)))
set_option maxHeartbeats 8000000 in
set_option maxRecDepth 100000 in
theorem standbyref07_Sizes.calls (k : Nat) (A0 : Option Addr) (c0 : Nat) (l0 : List Int) (r : Int) (w : World) (hr0 : Kd.C (Kd.int .i64) w A0 l0.length l0) (hc0 : l0.length ≤ c0) (h : standbyref07_Sizes.f k l0 = some r) :
    Calls Tryz.prog 59 #[.slice A0 l0.length c0] w fun e w' => e = .returned (.int .i64 r) ∧ Drawn0 w w' := by
  have HR0 := Aside0.mk hr0
  have HC0 := Aside0.mk hc0
  clear hr0 hc0
  have H : (if (l0.length : Int) < 1 then (standbyref07_Sizes.j0 k l0 true) else (standbyref07_Sizes.j0 k l0 (decide ((l0.length : Int) > 8)))) = some r := h
  clear h
  have HC2 := Aside0.mk H
  clear H
  go_enter Tryz.func59, Tryz.ntmps59
  go_upto_region 1 with (fail)
  go_cut [11] (fun v11 wc => ∃ (kq : Nat) (x11_1 : Bool), v11 = .bool x11_1 ∧ Aside0 (standbyref07_Sizes.j0 kq l0 x11_1 = some r) ∧ Aside0 (kq ≤ k) ∧ Drawn0 w wc)
  case first =>
    have H := HC2.out
    clear HC2
    by_cases c3 : (l0.length : Int) < 1
    · rw [if_pos c3] at H
      have c3b0 : decide ((l0.length : Int) < 1) = true := decide_eq_true c3
      have c3b1 : decide (l0.length < 1) = true := decide_eq_true (by omega)
      clear c3
      (first | rw [c3b0] | (simp only [i64_w, i32_w]; rw [c3b0]) | skip)
      have H' := Aside0.mk H
      clear H
      go_wp2
      go_meet
      case rel => exact ⟨_, (true), (by first | rfl | (simp; done) | (simp [*]; done)), H', ⟨by first | omega | exact Nat.le_refl _⟩, by repeat (first | exact Drawn0.refl _ | apply Drawn0.step)⟩
    · rw [if_neg c3] at H
      have c3b0 : decide ((l0.length : Int) < 1) = false := decide_eq_false c3
      have c3b1 : decide (l0.length < 1) = false := decide_eq_false (by omega)
      clear c3
      (first | rw [c3b0] | (simp only [i64_w, i32_w]; rw [c3b0]) | skip)
      have H' := Aside0.mk H
      clear H
      go_wp2
      go_meet
      case rel => exact ⟨_, (decide ((l0.length : Int) > 8)), (by first | rfl | (simp; done) | (simp [*]; done)), H', ⟨by first | omega | exact Nat.le_refl _⟩, by repeat (first | exact Drawn0.refl _ | apply Drawn0.step)⟩
  case rest =>
    clear HC2
    try clear p2
    try clear c3
    try clear c3b0
    try clear c3b1
    obtain ⟨kq, x11_1, rfl, HA, HJ1, ⟨mc1, rfl⟩⟩ := hcut
    cases kq with
    | zero => exact absurd HA.out (by simp [standbyref07_Sizes.j0])
    | succ kj1 =>
      have H := HA.out
      clear HA
      simp only [standbyref07_Sizes.j0] at H
      by_cases c4 : x11_1 = true
      · subst c4
        have H1 : (some 6) = some r := by rw [if_pos rfl] at H; exact H
        clear H
        have H := H1
        clear H1
        obtain rfl := Option.some.inj H
        go_wp2
        go_ret
        exact ⟨by first | rfl | (simp; done) | (simp [*]; done), by repeat (first | exact Drawn0.refl _ | apply Drawn0.step)⟩
      · replace c4 := Bool.eq_false_iff.mpr c4
        subst c4
        have H1 : (standbyref07_Sizes.l0 kj1 l0 0) = some r := by rw [if_neg (show ¬ (false = true) by decide)] at H; exact H
        clear H
        have H := H1
        clear H1
        have H' := Aside0.mk H
        clear H
        go_wp2
        go_loopg [3] kj1 (fun kq v3 w' => ∃ (x3_2 : Int), v3 = .int .i64 x3_2 ∧ Aside0 (standbyref07_Sizes.l0 kq l0 x3_2 = some r) ∧ Aside0 (kq ≤ kj1) ∧ Drawn0 w w')
        case atStart => exact ⟨(0), (by first | rfl | (simp; done) | (simp [*]; done)), H', ⟨Nat.le_refl _⟩, by repeat (first | exact Drawn0.refl _ | apply Drawn0.step)⟩
        case round =>
          clear H'
          try clear c1
          try clear p2
          try clear c3
          try clear c3b0
          try clear c3b1
          try clear c4
          try clear p2
          obtain ⟨x3_2, rfl, HA, HK2, ⟨m2, rfl⟩⟩ := hrel
          cases gk with
          | zero => exact absurd HA.out (by simp [standbyref07_Sizes.l0])
          | succ k2 =>
            have H := HA.out
            clear HA
            simp only [standbyref07_Sizes.l0] at H
            by_cases c5 : x3_2 < (l0.length : Int)
            · rw [if_pos c5] at H
              have c5b0 : decide (x3_2 < (l0.length : Int)) = true := decide_eq_true c5
              clear c5
              by_cases c6 : 0 ≤ x3_2
              · rw [if_pos c6] at H
                have c6b0 : decide (0 ≤ x3_2) = true := decide_eq_true c6
                clear c6
                by_cases c7 : (rd l0 x3_2) < 1
                · rw [if_pos c7] at H
                  have c7b0 : decide ((rd l0 x3_2) < 1) = true := decide_eq_true c7
                  clear c7
                  obtain rfl := Option.some.inj H
                  have p269 : 0 ≤ (x3_2 : Int) := of_decide_eq_true (by first | (with_reducible assumption) | assumption)
                  have q269 : x3_2 < (l0.length : Int) := of_decide_eq_true (by first | (with_reducible assumption) | assumption)
                  obtain ⟨ad269, e269, hx269_0⟩ := Kd.at_int HR0.out x3_2 p269 q269
                  cases e269
                  replace p269 := eq_true p269
                  replace q269 := eq_true q269
                  go_wp2
                  go_ret
                  exact ⟨by first | rfl | (simp; done) | (simp [*]; done), by repeat (first | exact Drawn0.refl _ | apply Drawn0.step)⟩
                · rw [if_neg c7] at H
                  have c7b0 : decide ((rd l0 x3_2) < 1) = false := decide_eq_false c7
                  clear c7
                  by_cases c8 : (rd l0 x3_2) > 4096
                  · rw [if_pos c8] at H
                    have c8b0 : decide (4096 < (rd l0 x3_2)) = true := decide_eq_true c8
                    clear c8
                    obtain rfl := Option.some.inj H
                    have p269 : 0 ≤ (x3_2 : Int) := of_decide_eq_true (by first | (with_reducible assumption) | assumption)
                    have q269 : x3_2 < (l0.length : Int) := of_decide_eq_true (by first | (with_reducible assumption) | assumption)
                    obtain ⟨ad269, e269, hx269_0⟩ := Kd.at_int HR0.out x3_2 p269 q269
                    cases e269
                    replace p269 := eq_true p269
                    replace q269 := eq_true q269
                    have p270 : 0 ≤ (x3_2 : Int) := of_decide_eq_true (by first | (with_reducible assumption) | assumption)
                    have q270 : x3_2 < (l0.length : Int) := of_decide_eq_true (by first | (with_reducible assumption) | assumption)
                    obtain ⟨ad270, e270, hx270_0⟩ := Kd.at_int HR0.out x3_2 p270 q270
                    obtain rfl : ad269 = ad270 := (by injection e270)
                    replace p270 := eq_true p270
                    replace q270 := eq_true q270
                    go_wp2
                    go_ret
                    exact ⟨by first | rfl | (simp; done) | (simp [*]; done), by repeat (first | exact Drawn0.refl _ | apply Drawn0.step)⟩
                  · rw [if_neg c8] at H
                    have c8b0 : decide (4096 < (rd l0 x3_2)) = false := decide_eq_false c8
                    clear c8
                    have H' := Aside0.mk H
                    clear H
                    have p269 : 0 ≤ (x3_2 : Int) := of_decide_eq_true (by first | (with_reducible assumption) | assumption)
                    have q269 : x3_2 < (l0.length : Int) := of_decide_eq_true (by first | (with_reducible assumption) | assumption)
                    obtain ⟨ad269, e269, hx269_0⟩ := Kd.at_int HR0.out x3_2 p269 q269
                    cases e269
                    replace p269 := eq_true p269
                    replace q269 := eq_true q269
                    have p270 : 0 ≤ (x3_2 : Int) := of_decide_eq_true (by first | (with_reducible assumption) | assumption)
                    have q270 : x3_2 < (l0.length : Int) := of_decide_eq_true (by first | (with_reducible assumption) | assumption)
                    obtain ⟨ad270, e270, hx270_0⟩ := Kd.at_int HR0.out x3_2 p270 q270
                    obtain rfl : ad269 = ad270 := (by injection e270)
                    replace p270 := eq_true p270
                    replace q270 := eq_true q270
                    go_wp2
                    go_roundg k2
                    case measure => have := HJ1.out; have := HK2.out; omega
                    case rel => exact ⟨(wrap64 (x3_2 + 1)), (by first | rfl | (simp; done) | (simp [*]; done)), H', ⟨by have := HJ1.out; have := HK2.out; omega⟩, by repeat (first | exact Drawn0.refl _ | apply Drawn0.step)⟩
              · rw [if_neg c6] at H
                exact absurd H (by simp)
            · rw [if_neg c5] at H
              have c5b0 : decide (x3_2 < (l0.length : Int)) = false := decide_eq_false c5
              clear c5
              obtain rfl := Option.some.inj H
              go_wp2
              go_ret
              exact ⟨by first | rfl | (simp; done) | (simp [*]; done), by repeat (first | exact Drawn0.refl _ | apply Drawn0.step)⟩
def standbyref07_Check.f (k : Nat) (l0 : List (List (S59))) : Option (Int) := (standbyref07_SizesOf.f k l0).bind fun t271 => ((standbyref07_Sizes.f k t271).bind fun t274 => (some t274))
set_option maxHeartbeats 8000000 in
set_option maxRecDepth 100000 in
theorem standbyref07_Check.calls (k : Nat) (A0 : Option Addr) (c0 : Nat) (l0 : List (List (S59))) (r : Int) (w : World) (hr0 : Kd.C (Kd.slice 59 k59) w A0 l0.length l0) (hc0 : l0.length ≤ c0) (h : standbyref07_Check.f k l0 = some r) :
    Calls Tryz.prog 28 #[.slice A0 l0.length c0] w fun e w' => e = .returned (.int .i64 r) ∧ Below w.heap.size w w' := by
  have HR0 := Aside0.mk hr0
  have HC0 := Aside0.mk hc0
  clear hr0 hc0
  have HB := Aside0.mk (Below.refl w.heap.size w)
  have H : ((standbyref07_SizesOf.f k l0).bind fun t271 => ((standbyref07_Sizes.f k t271).bind fun t274 => (some t274))) = some r := h
  clear h
  replace H := Option.bind_eq_some_iff.mp H
  obtain ⟨t271, A20, H⟩ := H
  replace H : ((standbyref07_Sizes.f k t271).bind fun t274 => (some t274)) = some r := H
  have A2 := Aside0.mk A20
  clear A20
  replace H := Option.bind_eq_some_iff.mp H
  obtain ⟨t274, A30, H⟩ := H
  replace H : (some t274) = some r := H
  have A3 := Aside0.mk A30
  clear A30
  obtain rfl := Option.some.inj H
  go_enter Tryz.func28, Tryz.ntmps28
  go_wp2_with (first | ((with_reducible refine gate_callee (f := 35) rfl ?_); refine zG (some 4) Tryz.func35 #[.slice A0 l0.length c0] ?_; (with_reducible refine (standbyref07_SizesOf.calls k _ _ l0 t271 _ ?side1 ?side2 A2.out).mono ?_); (case side1 => repeat (first | exact HR0.out | (with_reducible refine Kd.C_alloc ?_ _) | (with_reducible refine Kd.C_drewN ?_ _) | (with_reducible refine Kd.C_drew ?_))); (case side2 => exact HC0.out); rintro e w4 ⟨v272, rfl, ho0, hb⟩; refine ⟨_, rfl, ?_⟩; have HO273 := Aside0.mk (Kd.R_lower ho0 (below_size (zb HB))); replace HB := Aside0.mk (below_step (zb HB) hb); clear hb ho0; obtain ⟨Ao5, co5, eo5⟩ := Kd.R_slice HO273.out; subst eo5) | ((with_reducible refine gate_callee (f := 59) rfl ?_); refine zG (some 5) Tryz.func59 #[.slice Ao5 t271.length co5] ?_; (with_reducible refine (standbyref07_Sizes.calls k _ _ t271 t274 _ ?side1 ?side2 A3.out).mono ?_); (case side1 => repeat (first | exact (Kd.R_reads' HO273.out).2.2 | (with_reducible refine Kd.C_alloc ?_ _) | (with_reducible refine Kd.C_drewN ?_ _) | (with_reducible refine Kd.C_drew ?_))); (case side2 => exact (Kd.R_reads' HO273.out).2.1); rintro e w' ⟨rfl, ⟨nd, rfl⟩⟩; refine ⟨_, rfl, ?_⟩))
  go_ret
  exact ⟨by first | rfl | (simp [errW_none, errW_some] <;> rfl) | (simp [*, errW_none, errW_some] <;> rfl), zb HB⟩
def standbyref01_within.f (a0_0 : Int) (a0_1 : Int) (a1 : Int) : Option (Bool) := if a0_0 ≥ 0 then (if a0_1 ≤ a1 then (some (decide (a0_0 ≤ (wrap64 (a1 - a0_1))))) else (some false)) else (some false)
set_option maxHeartbeats 8000000 in
set_option maxRecDepth 100000 in
theorem standbyref01_within.calls (a0_0 : Int) (a0_1 : Int) (a1 : Int) (r : Bool) (w : World) (h : standbyref01_within.f a0_0 a0_1 a1 = some r) :
    Calls Tryz.prog 83 #[.agg #[.int .i64 a0_0, .int .i64 a0_1], .int .i64 a1] w fun e w' => e = .returned (.bool r) ∧ Below w.heap.size w w' := by
  have hu61 := Tryz.underlying61
  have HB := Aside0.mk (Below.refl w.heap.size w)
  have H : (if a0_0 ≥ 0 then (if a0_1 ≤ a1 then (some (decide (a0_0 ≤ (wrap64 (a1 - a0_1))))) else (some false)) else (some false)) = some r := h
  clear h
  by_cases c3 : a0_0 ≥ 0
  · rw [if_pos c3] at H
    have c3b0 : decide (0 ≤ a0_0) = true := decide_eq_true c3
    clear c3
    by_cases c4 : a0_1 ≤ a1
    · rw [if_pos c4] at H
      have c4b0 : decide (a0_1 ≤ a1) = true := decide_eq_true c4
      clear c4
      obtain rfl := Option.some.inj H
      go_enter Tryz.func83, Tryz.ntmps83
      go_wp2_with (first | ((with_reducible refine gate_dst (N := 2) rfl ?_); refine box_event ?hg (N := 2) ?hd (cs := #[.int .i64 a0_0, .int .i64 a0_1]) (t := 61) ?hr ?_; (case hd => rfl); (case hg => rfl); (case hr => first | (go_simp; done) | (go_simp; rfl)); intro gb275 hg w5 hbox hb; have BK275 := Aside0.mk (hbox); have GW275 := Aside0.mk (zg hg HB); have GE275 := Aside0.mk (zg hg HB); replace HB := Aside0.mk (below_step (zb HB) hb); clear hb hbox hg; obtain ⟨⟨hcz6_0, hcz6_1⟩, hfz6_0, hfz6_1⟩ := zc2 BK275))
      go_ret
      exact ⟨by first | rfl | (simp [errW_none, errW_some] <;> rfl) | (simp [*, errW_none, errW_some] <;> rfl), zb HB⟩
    · rw [if_neg c4] at H
      have c4b0 : decide (a0_1 ≤ a1) = false := decide_eq_false c4
      clear c4
      obtain rfl := Option.some.inj H
      go_enter Tryz.func83, Tryz.ntmps83
      go_wp2_with (first | ((with_reducible refine gate_dst (N := 2) rfl ?_); refine box_event ?hg (N := 2) ?hd (cs := #[.int .i64 a0_0, .int .i64 a0_1]) (t := 61) ?hr ?_; (case hd => rfl); (case hg => rfl); (case hr => first | (go_simp; done) | (go_simp; rfl)); intro gb275 hg w7 hbox hb; have BK275 := Aside0.mk (hbox); have GW275 := Aside0.mk (zg hg HB); have GE275 := Aside0.mk (zg hg HB); replace HB := Aside0.mk (below_step (zb HB) hb); clear hb hbox hg; obtain ⟨⟨hcz8_0, hcz8_1⟩, hfz8_0, hfz8_1⟩ := zc2 BK275))
      go_ret
      exact ⟨by first | rfl | (simp [errW_none, errW_some] <;> rfl) | (simp [*, errW_none, errW_some] <;> rfl), zb HB⟩
  · rw [if_neg c3] at H
    have c3b0 : decide (0 ≤ a0_0) = false := decide_eq_false c3
    clear c3
    obtain rfl := Option.some.inj H
    go_enter Tryz.func83, Tryz.ntmps83
    go_wp2_with (first | ((with_reducible refine gate_dst (N := 2) rfl ?_); refine box_event ?hg (N := 2) ?hd (cs := #[.int .i64 a0_0, .int .i64 a0_1]) (t := 61) ?hr ?_; (case hd => rfl); (case hg => rfl); (case hr => first | (go_simp; done) | (go_simp; rfl)); intro gb275 hg w9 hbox hb; have BK275 := Aside0.mk (hbox); have GW275 := Aside0.mk (zg hg HB); have GE275 := Aside0.mk (zg hg HB); replace HB := Aside0.mk (below_step (zb HB) hb); clear hb hbox hg; obtain ⟨⟨hcz10_0, hcz10_1⟩, hfz10_0, hfz10_1⟩ := zc2 BK275))
    go_ret
    exact ⟨by first | rfl | (simp [errW_none, errW_some] <;> rfl) | (simp [*, errW_none, errW_some] <;> rfl), zb HB⟩
mutual
def standbyref01_Check.j0 : Nat → List (S61) → Int → Bool → Option (Int)
  | 0, _, _, _ => none
  | k + 1, x0, x1, x12 => if x12 = true then (some 2) else (standbyref01_Check.l0 k x0 x1 (-2) 0)
def standbyref01_Check.l0 : Nat → List (S61) → Int → Int → Int → Option (Int)
  | 0, _, _, _, _ => none
  | k + 1, x0, x1, x5, x6 => if x6 < (x0.length : Int) then (if 0 ≤ x6 then (if ((rd_T61 x0 x6).f1) ≤ 0 then (some 1) else ((standbyref01_within.f ((rd_T61 x0 x6).f0) ((rd_T61 x0 x6).f1) x1).bind fun t278 => (if t278 = true then (if ((rd_T61 x0 x6).f0) < (wrap64 (x5 + 2)) then (some 3) else (standbyref01_Check.l0 k x0 x1 (wrap64 ((wrap64 (((rd_T61 x0 x6).f0) + ((rd_T61 x0 x6).f1))) - 1)) (wrap64 (x6 + 1)))) else (some 2)))) else (none)) else (some 0)
end
def standbyref01_Check.f (k : Nat) (l0 : List (S61)) (a1 : Int) : Option (Int) := if a1 < 0 then (standbyref01_Check.j0 k l0 a1 true) else (standbyref01_Check.j0 k l0 a1 (decide (a1 > 4096)))
set_option maxHeartbeats 8000000 in
set_option maxRecDepth 100000 in
theorem standbyref01_Check.calls (k : Nat) (A0 : Option Addr) (c0 : Nat) (l0 : List (S61)) (a1 : Int) (r : Int) (w : World) (hr0 : Kd.C k61 w A0 l0.length l0) (hc0 : l0.length ≤ c0) (h : standbyref01_Check.f k l0 a1 = some r) :
    Calls Tryz.prog 60 #[.slice A0 l0.length c0, .int .i64 a1] w fun e w' => e = .returned (.int .i64 r) ∧ Below w.heap.size w w' := by
  have hu61 := Tryz.underlying61
  have HR0 := Aside0.mk hr0
  have HC0 := Aside0.mk hc0
  clear hr0 hc0
  have HB := Aside0.mk (Below.refl w.heap.size w)
  have H : (if a1 < 0 then (standbyref01_Check.j0 k l0 a1 true) else (standbyref01_Check.j0 k l0 a1 (decide (a1 > 4096)))) = some r := h
  clear h
  have HC3 := Aside0.mk H
  clear H
  go_enter Tryz.func60, Tryz.ntmps60
  go_upto_region 1 with (fail)
  repeat (go_quiet (fail); go_upto_region 1 with (fail))
  go_cut [12] (fun v12 wc => ∃ (kq : Nat) (x12_2 : Bool), v12 = .bool x12_2 ∧ Aside0 (standbyref01_Check.j0 kq l0 a1 x12_2 = some r) ∧ Aside0 (kq ≤ k) ∧ Aside0 (Below w.heap.size w wc))
  case first =>
    have H := HC3.out
    clear HC3
    by_cases c4 : a1 < 0
    · rw [if_pos c4] at H
      have c4b0 : decide (a1 < 0) = true := decide_eq_true c4
      clear c4
      (first | rw [c4b0] | (simp only [i64_w, i32_w]; rw [c4b0]) | skip)
      have H' := Aside0.mk H
      clear H
      go_wp2
      repeat (go_quiet (fail); try go_wp2)
      go_meet
      case rel => exact ⟨_, (true), (by first | rfl | (simp; done) | (simp [*]; done)), H', ⟨by first | omega | exact Nat.le_refl _⟩, ⟨zb HB⟩⟩
    · rw [if_neg c4] at H
      have c4b0 : decide (a1 < 0) = false := decide_eq_false c4
      clear c4
      (first | rw [c4b0] | (simp only [i64_w, i32_w]; rw [c4b0]) | skip)
      have H' := Aside0.mk H
      clear H
      go_wp2
      repeat (go_quiet (fail); try go_wp2)
      go_meet
      case rel => exact ⟨_, (decide (a1 > 4096)), (by first | rfl | (simp; done) | (simp [*]; done)), H', ⟨by first | omega | exact Nat.le_refl _⟩, ⟨zb HB⟩⟩
  case rest =>
    clear HC3
    try clear p2
    try clear c4
    try clear c4b0
    obtain ⟨kq, x12_2, rfl, HA, HJ2, HB⟩ := hcut
    cases kq with
    | zero => exact absurd HA.out (by simp [standbyref01_Check.j0])
    | succ kj2 =>
      have H := HA.out
      clear HA
      simp only [standbyref01_Check.j0] at H
      by_cases c5 : x12_2 = true
      · subst c5
        have H1 : (some 2) = some r := by rw [if_pos rfl] at H; exact H
        clear H
        have H := H1
        clear H1
        obtain rfl := Option.some.inj H
        go_wp2
        repeat (go_quiet (fail); try go_wp2)
        go_ret
        exact ⟨by first | rfl | (simp [errW_none, errW_some] <;> rfl) | (simp [*, errW_none, errW_some] <;> rfl), zb HB⟩
      · replace c5 := Bool.eq_false_iff.mpr c5
        subst c5
        have H1 : (standbyref01_Check.l0 kj2 l0 a1 (-2) 0) = some r := by rw [if_neg (show ¬ (false = true) by decide)] at H; exact H
        clear H
        have H := H1
        clear H1
        have H' := Aside0.mk H
        clear H
        go_wp2
        repeat (go_quiet (fail); try go_wp2)
        go_loopg [5, 6] kj2 (fun kq v5 v6 w' => ∃ (x5_2 : Int) (x6_2 : Int), v5 = .int .i64 x5_2 ∧ v6 = .int .i64 x6_2 ∧ Aside0 (standbyref01_Check.l0 kq l0 a1 x5_2 x6_2 = some r) ∧ Aside0 (kq ≤ kj2) ∧ Aside0 (Below w.heap.size w w'))
        case atStart => exact ⟨((-2)), (0), (by first | rfl | (simp; done) | (simp [*]; done)), (by first | rfl | (simp; done) | (simp [*]; done)), H', ⟨Nat.le_refl _⟩, ⟨zb HB⟩⟩
        case round =>
          clear H'
          try clear p2
          try clear c4
          try clear c4b0
          try clear c5
          try clear p2
          obtain ⟨x5_2, x6_2, rfl, rfl, HA, HK2, HB⟩ := hrel
          cases gk with
          | zero => exact absurd HA.out (by simp [standbyref01_Check.l0])
          | succ k2 =>
            have H := HA.out
            clear HA
            simp only [standbyref01_Check.l0] at H
            by_cases c6 : x6_2 < (l0.length : Int)
            · rw [if_pos c6] at H
              have c6b0 : decide (x6_2 < (l0.length : Int)) = true := decide_eq_true c6
              clear c6
              by_cases c7 : 0 ≤ x6_2
              · rw [if_pos c7] at H
                have c7b0 : decide (0 ≤ x6_2) = true := decide_eq_true c7
                clear c7
                by_cases c8 : ((rd_T61 l0 x6_2).f1) ≤ 0
                · rw [if_pos c8] at H
                  have c8b0 : decide (((rd_T61 l0 x6_2).f1) ≤ 0) = true := decide_eq_true c8
                  clear c8
                  obtain rfl := Option.some.inj H
                  have p276 : 0 ≤ (x6_2 : Int) := of_decide_eq_true (by first | (with_reducible assumption) | assumption)
                  have q276 : x6_2 < (l0.length : Int) := of_decide_eq_true (by first | (with_reducible assumption) | assumption)
                  obtain ⟨ad276, e276, hx276_0, hx276_1⟩ := at_T61 HR0.out x6_2 p276 q276
                  cases e276
                  replace hx276_0 := (HB.out.cell (World.block_lt_of_cell? w _ hx276_0)).trans hx276_0
                  replace hx276_1 := (HB.out.cell (World.block_lt_of_cell? w _ hx276_1)).trans hx276_1
                  replace p276 := eq_true p276
                  replace q276 := eq_true q276
                  go_wp2
                  repeat (go_quiet (fail); try go_wp2)
                  go_ret
                  exact ⟨by first | rfl | (simp [errW_none, errW_some] <;> rfl) | (simp [*, errW_none, errW_some] <;> rfl), zb HB⟩
                · rw [if_neg c8] at H
                  have c8b0 : decide (((rd_T61 l0 x6_2).f1) ≤ 0) = false := decide_eq_false c8
                  clear c8
                  replace H := Option.bind_eq_some_iff.mp H
                  obtain ⟨t278, A90, H⟩ := H
                  replace H : (if t278 = true then (if ((rd_T61 l0 x6_2).f0) < (wrap64 (x5_2 + 2)) then (some 3) else (standbyref01_Check.l0 k2 l0 a1 (wrap64 ((wrap64 (((rd_T61 l0 x6_2).f0) + ((rd_T61 l0 x6_2).f1))) - 1)) (wrap64 (x6_2 + 1)))) else (some 2)) = some r := H
                  have A9 := Aside0.mk A90
                  clear A90
                  by_cases c10 : t278 = true
                  · subst c10
                    have H1 : (if ((rd_T61 l0 x6_2).f0) < (wrap64 (x5_2 + 2)) then (some 3) else (standbyref01_Check.l0 k2 l0 a1 (wrap64 ((wrap64 (((rd_T61 l0 x6_2).f0) + ((rd_T61 l0 x6_2).f1))) - 1)) (wrap64 (x6_2 + 1)))) = some r := by rw [if_pos rfl] at H; exact H
                    clear H
                    have H := H1
                    clear H1
                    by_cases c11 : ((rd_T61 l0 x6_2).f0) < (wrap64 (x5_2 + 2))
                    · rw [if_pos c11] at H
                      have c11b0 : decide (((rd_T61 l0 x6_2).f0) < (wrap64 (x5_2 + 2))) = true := decide_eq_true c11
                      clear c11
                      obtain rfl := Option.some.inj H
                      have p276 : 0 ≤ (x6_2 : Int) := of_decide_eq_true (by first | (with_reducible assumption) | assumption)
                      have q276 : x6_2 < (l0.length : Int) := of_decide_eq_true (by first | (with_reducible assumption) | assumption)
                      obtain ⟨ad276, e276, hx276_0, hx276_1⟩ := at_T61 HR0.out x6_2 p276 q276
                      cases e276
                      replace hx276_0 := (HB.out.cell (World.block_lt_of_cell? w _ hx276_0)).trans hx276_0
                      replace hx276_1 := (HB.out.cell (World.block_lt_of_cell? w _ hx276_1)).trans hx276_1
                      replace p276 := eq_true p276
                      replace q276 := eq_true q276
                      have p277 : 0 ≤ (x6_2 : Int) := of_decide_eq_true (by first | (with_reducible assumption) | assumption)
                      have q277 : x6_2 < (l0.length : Int) := of_decide_eq_true (by first | (with_reducible assumption) | assumption)
                      obtain ⟨ad277, e277, hx277_0, hx277_1⟩ := at_T61 HR0.out x6_2 p277 q277
                      obtain rfl : ad276 = ad277 := (by injection e277)
                      replace hx277_0 := (HB.out.cell (World.block_lt_of_cell? w _ hx277_0)).trans hx277_0
                      replace hx277_1 := (HB.out.cell (World.block_lt_of_cell? w _ hx277_1)).trans hx277_1
                      replace p277 := eq_true p277
                      replace q277 := eq_true q277
                      go_wp2_with (first | (go_at_call 83; (with_reducible refine (standbyref01_within.calls ((rd_T61 l0 x6_2).f0) ((rd_T61 l0 x6_2).f1) a1 true _ A9.out).mono ?_); rintro e w12 ⟨rfl, hb⟩; replace HB := Aside0.mk (below_step (zb HB) hb); clear hb; have p279 : 0 ≤ (x6_2 : Int) := of_decide_eq_true (by first | (with_reducible assumption) | assumption); have q279 : x6_2 < (l0.length : Int) := of_decide_eq_true (by first | (with_reducible assumption) | assumption); obtain ⟨ad279, e279, hx279_0, hx279_1⟩ := at_T61 HR0.out x6_2 p279 q279; obtain rfl : ad276 = ad279 := (by injection e279); replace hx279_0 := (HB.out.cell (World.block_lt_of_cell? w _ hx279_0)).trans hx279_0; replace hx279_1 := (HB.out.cell (World.block_lt_of_cell? w _ hx279_1)).trans hx279_1; replace p279 := eq_true p279; replace q279 := eq_true q279))
                      repeat (go_quiet (first | (go_at_call 83; (with_reducible refine (standbyref01_within.calls ((rd_T61 l0 x6_2).f0) ((rd_T61 l0 x6_2).f1) a1 true _ A9.out).mono ?_); rintro e w12 ⟨rfl, hb⟩; replace HB := Aside0.mk (below_step (zb HB) hb); clear hb; have p279 : 0 ≤ (x6_2 : Int) := of_decide_eq_true (by first | (with_reducible assumption) | assumption); have q279 : x6_2 < (l0.length : Int) := of_decide_eq_true (by first | (with_reducible assumption) | assumption); obtain ⟨ad279, e279, hx279_0, hx279_1⟩ := at_T61 HR0.out x6_2 p279 q279; obtain rfl : ad276 = ad279 := (by injection e279); replace hx279_0 := (HB.out.cell (World.block_lt_of_cell? w _ hx279_0)).trans hx279_0; replace hx279_1 := (HB.out.cell (World.block_lt_of_cell? w _ hx279_1)).trans hx279_1; replace p279 := eq_true p279; replace q279 := eq_true q279)); try go_wp2_with (first | (go_at_call 83; (with_reducible refine (standbyref01_within.calls ((rd_T61 l0 x6_2).f0) ((rd_T61 l0 x6_2).f1) a1 true _ A9.out).mono ?_); rintro e w12 ⟨rfl, hb⟩; replace HB := Aside0.mk (below_step (zb HB) hb); clear hb; have p279 : 0 ≤ (x6_2 : Int) := of_decide_eq_true (by first | (with_reducible assumption) | assumption); have q279 : x6_2 < (l0.length : Int) := of_decide_eq_true (by first | (with_reducible assumption) | assumption); obtain ⟨ad279, e279, hx279_0, hx279_1⟩ := at_T61 HR0.out x6_2 p279 q279; obtain rfl : ad276 = ad279 := (by injection e279); replace hx279_0 := (HB.out.cell (World.block_lt_of_cell? w _ hx279_0)).trans hx279_0; replace hx279_1 := (HB.out.cell (World.block_lt_of_cell? w _ hx279_1)).trans hx279_1; replace p279 := eq_true p279; replace q279 := eq_true q279)))
                      go_ret
                      exact ⟨by first | rfl | (simp [errW_none, errW_some] <;> rfl) | (simp [*, errW_none, errW_some] <;> rfl), zb HB⟩
                    · rw [if_neg c11] at H
                      have c11b0 : decide (((rd_T61 l0 x6_2).f0) < (wrap64 (x5_2 + 2))) = false := decide_eq_false c11
                      clear c11
                      have H' := Aside0.mk H
                      clear H
                      have p276 : 0 ≤ (x6_2 : Int) := of_decide_eq_true (by first | (with_reducible assumption) | assumption)
                      have q276 : x6_2 < (l0.length : Int) := of_decide_eq_true (by first | (with_reducible assumption) | assumption)
                      obtain ⟨ad276, e276, hx276_0, hx276_1⟩ := at_T61 HR0.out x6_2 p276 q276
                      cases e276
                      replace hx276_0 := (HB.out.cell (World.block_lt_of_cell? w _ hx276_0)).trans hx276_0
                      replace hx276_1 := (HB.out.cell (World.block_lt_of_cell? w _ hx276_1)).trans hx276_1
                      replace p276 := eq_true p276
                      replace q276 := eq_true q276
                      have p277 : 0 ≤ (x6_2 : Int) := of_decide_eq_true (by first | (with_reducible assumption) | assumption)
                      have q277 : x6_2 < (l0.length : Int) := of_decide_eq_true (by first | (with_reducible assumption) | assumption)
                      obtain ⟨ad277, e277, hx277_0, hx277_1⟩ := at_T61 HR0.out x6_2 p277 q277
                      obtain rfl : ad276 = ad277 := (by injection e277)
                      replace hx277_0 := (HB.out.cell (World.block_lt_of_cell? w _ hx277_0)).trans hx277_0
                      replace hx277_1 := (HB.out.cell (World.block_lt_of_cell? w _ hx277_1)).trans hx277_1
                      replace p277 := eq_true p277
                      replace q277 := eq_true q277
                      go_wp2_with (first | (go_at_call 83; (with_reducible refine (standbyref01_within.calls ((rd_T61 l0 x6_2).f0) ((rd_T61 l0 x6_2).f1) a1 true _ A9.out).mono ?_); rintro e w13 ⟨rfl, hb⟩; replace HB := Aside0.mk (below_step (zb HB) hb); clear hb; have p279 : 0 ≤ (x6_2 : Int) := of_decide_eq_true (by first | (with_reducible assumption) | assumption); have q279 : x6_2 < (l0.length : Int) := of_decide_eq_true (by first | (with_reducible assumption) | assumption); obtain ⟨ad279, e279, hx279_0, hx279_1⟩ := at_T61 HR0.out x6_2 p279 q279; obtain rfl : ad276 = ad279 := (by injection e279); replace hx279_0 := (HB.out.cell (World.block_lt_of_cell? w _ hx279_0)).trans hx279_0; replace hx279_1 := (HB.out.cell (World.block_lt_of_cell? w _ hx279_1)).trans hx279_1; replace p279 := eq_true p279; replace q279 := eq_true q279; have p280 : 0 ≤ (x6_2 : Int) := of_decide_eq_true (by first | (with_reducible assumption) | assumption); have q280 : x6_2 < (l0.length : Int) := of_decide_eq_true (by first | (with_reducible assumption) | assumption); obtain ⟨ad280, e280, hx280_0, hx280_1⟩ := at_T61 HR0.out x6_2 p280 q280; obtain rfl : ad276 = ad280 := (by injection e280); replace hx280_0 := (HB.out.cell (World.block_lt_of_cell? w _ hx280_0)).trans hx280_0; replace hx280_1 := (HB.out.cell (World.block_lt_of_cell? w _ hx280_1)).trans hx280_1; replace p280 := eq_true p280; replace q280 := eq_true q280; have p281 : 0 ≤ (x6_2 : Int) := of_decide_eq_true (by first | (with_reducible assumption) | assumption); have q281 : x6_2 < (l0.length : Int) := of_decide_eq_true (by first | (with_reducible assumption) | assumption); obtain ⟨ad281, e281, hx281_0, hx281_1⟩ := at_T61 HR0.out x6_2 p281 q281; obtain rfl : ad276 = ad281 := (by injection e281); replace hx281_0 := (HB.out.cell (World.block_lt_of_cell? w _ hx281_0)).trans hx281_0; replace hx281_1 := (HB.out.cell (World.block_lt_of_cell? w _ hx281_1)).trans hx281_1; replace p281 := eq_true p281; replace q281 := eq_true q281))
                      repeat (go_quiet (first | (go_at_call 83; (with_reducible refine (standbyref01_within.calls ((rd_T61 l0 x6_2).f0) ((rd_T61 l0 x6_2).f1) a1 true _ A9.out).mono ?_); rintro e w13 ⟨rfl, hb⟩; replace HB := Aside0.mk (below_step (zb HB) hb); clear hb; have p279 : 0 ≤ (x6_2 : Int) := of_decide_eq_true (by first | (with_reducible assumption) | assumption); have q279 : x6_2 < (l0.length : Int) := of_decide_eq_true (by first | (with_reducible assumption) | assumption); obtain ⟨ad279, e279, hx279_0, hx279_1⟩ := at_T61 HR0.out x6_2 p279 q279; obtain rfl : ad276 = ad279 := (by injection e279); replace hx279_0 := (HB.out.cell (World.block_lt_of_cell? w _ hx279_0)).trans hx279_0; replace hx279_1 := (HB.out.cell (World.block_lt_of_cell? w _ hx279_1)).trans hx279_1; replace p279 := eq_true p279; replace q279 := eq_true q279; have p280 : 0 ≤ (x6_2 : Int) := of_decide_eq_true (by first | (with_reducible assumption) | assumption); have q280 : x6_2 < (l0.length : Int) := of_decide_eq_true (by first | (with_reducible assumption) | assumption); obtain ⟨ad280, e280, hx280_0, hx280_1⟩ := at_T61 HR0.out x6_2 p280 q280; obtain rfl : ad276 = ad280 := (by injection e280); replace hx280_0 := (HB.out.cell (World.block_lt_of_cell? w _ hx280_0)).trans hx280_0; replace hx280_1 := (HB.out.cell (World.block_lt_of_cell? w _ hx280_1)).trans hx280_1; replace p280 := eq_true p280; replace q280 := eq_true q280; have p281 : 0 ≤ (x6_2 : Int) := of_decide_eq_true (by first | (with_reducible assumption) | assumption); have q281 : x6_2 < (l0.length : Int) := of_decide_eq_true (by first | (with_reducible assumption) | assumption); obtain ⟨ad281, e281, hx281_0, hx281_1⟩ := at_T61 HR0.out x6_2 p281 q281; obtain rfl : ad276 = ad281 := (by injection e281); replace hx281_0 := (HB.out.cell (World.block_lt_of_cell? w _ hx281_0)).trans hx281_0; replace hx281_1 := (HB.out.cell (World.block_lt_of_cell? w _ hx281_1)).trans hx281_1; replace p281 := eq_true p281; replace q281 := eq_true q281)); try go_wp2_with (first | (go_at_call 83; (with_reducible refine (standbyref01_within.calls ((rd_T61 l0 x6_2).f0) ((rd_T61 l0 x6_2).f1) a1 true _ A9.out).mono ?_); rintro e w13 ⟨rfl, hb⟩; replace HB := Aside0.mk (below_step (zb HB) hb); clear hb; have p279 : 0 ≤ (x6_2 : Int) := of_decide_eq_true (by first | (with_reducible assumption) | assumption); have q279 : x6_2 < (l0.length : Int) := of_decide_eq_true (by first | (with_reducible assumption) | assumption); obtain ⟨ad279, e279, hx279_0, hx279_1⟩ := at_T61 HR0.out x6_2 p279 q279; obtain rfl : ad276 = ad279 := (by injection e279); replace hx279_0 := (HB.out.cell (World.block_lt_of_cell? w _ hx279_0)).trans hx279_0; replace hx279_1 := (HB.out.cell (World.block_lt_of_cell? w _ hx279_1)).trans hx279_1; replace p279 := eq_true p279; replace q279 := eq_true q279; have p280 : 0 ≤ (x6_2 : Int) := of_decide_eq_true (by first | (with_reducible assumption) | assumption); have q280 : x6_2 < (l0.length : Int) := of_decide_eq_true (by first | (with_reducible assumption) | assumption); obtain ⟨ad280, e280, hx280_0, hx280_1⟩ := at_T61 HR0.out x6_2 p280 q280; obtain rfl : ad276 = ad280 := (by injection e280); replace hx280_0 := (HB.out.cell (World.block_lt_of_cell? w _ hx280_0)).trans hx280_0; replace hx280_1 := (HB.out.cell (World.block_lt_of_cell? w _ hx280_1)).trans hx280_1; replace p280 := eq_true p280; replace q280 := eq_true q280; have p281 : 0 ≤ (x6_2 : Int) := of_decide_eq_true (by first | (with_reducible assumption) | assumption); have q281 : x6_2 < (l0.length : Int) := of_decide_eq_true (by first | (with_reducible assumption) | assumption); obtain ⟨ad281, e281, hx281_0, hx281_1⟩ := at_T61 HR0.out x6_2 p281 q281; obtain rfl : ad276 = ad281 := (by injection e281); replace hx281_0 := (HB.out.cell (World.block_lt_of_cell? w _ hx281_0)).trans hx281_0; replace hx281_1 := (HB.out.cell (World.block_lt_of_cell? w _ hx281_1)).trans hx281_1; replace p281 := eq_true p281; replace q281 := eq_true q281)))
                      go_roundg k2
                      case measure => have := HJ2.out; have := HK2.out; omega
                      case rel => exact ⟨(wrap64 ((wrap64 (((rd_T61 l0 x6_2).f0) + ((rd_T61 l0 x6_2).f1))) - 1)), (wrap64 (x6_2 + 1)), (by first | rfl | (simp; done) | (simp [*]; done)), (by first | rfl | (simp; done) | (simp [*]; done)), H', ⟨by have := HJ2.out; have := HK2.out; omega⟩, ⟨zb HB⟩⟩
                  · replace c10 := Bool.eq_false_iff.mpr c10
                    subst c10
                    have H1 : (some 2) = some r := by rw [if_neg (show ¬ (false = true) by decide)] at H; exact H
                    clear H
                    have H := H1
                    clear H1
                    obtain rfl := Option.some.inj H
                    have p276 : 0 ≤ (x6_2 : Int) := of_decide_eq_true (by first | (with_reducible assumption) | assumption)
                    have q276 : x6_2 < (l0.length : Int) := of_decide_eq_true (by first | (with_reducible assumption) | assumption)
                    obtain ⟨ad276, e276, hx276_0, hx276_1⟩ := at_T61 HR0.out x6_2 p276 q276
                    cases e276
                    replace hx276_0 := (HB.out.cell (World.block_lt_of_cell? w _ hx276_0)).trans hx276_0
                    replace hx276_1 := (HB.out.cell (World.block_lt_of_cell? w _ hx276_1)).trans hx276_1
                    replace p276 := eq_true p276
                    replace q276 := eq_true q276
                    have p277 : 0 ≤ (x6_2 : Int) := of_decide_eq_true (by first | (with_reducible assumption) | assumption)
                    have q277 : x6_2 < (l0.length : Int) := of_decide_eq_true (by first | (with_reducible assumption) | assumption)
                    obtain ⟨ad277, e277, hx277_0, hx277_1⟩ := at_T61 HR0.out x6_2 p277 q277
                    obtain rfl : ad276 = ad277 := (by injection e277)
                    replace hx277_0 := (HB.out.cell (World.block_lt_of_cell? w _ hx277_0)).trans hx277_0
                    replace hx277_1 := (HB.out.cell (World.block_lt_of_cell? w _ hx277_1)).trans hx277_1
                    replace p277 := eq_true p277
                    replace q277 := eq_true q277
                    go_wp2_with (first | (go_at_call 83; (with_reducible refine (standbyref01_within.calls ((rd_T61 l0 x6_2).f0) ((rd_T61 l0 x6_2).f1) a1 false _ A9.out).mono ?_); rintro e w14 ⟨rfl, hb⟩; replace HB := Aside0.mk (below_step (zb HB) hb); clear hb))
                    repeat (go_quiet (first | (go_at_call 83; (with_reducible refine (standbyref01_within.calls ((rd_T61 l0 x6_2).f0) ((rd_T61 l0 x6_2).f1) a1 false _ A9.out).mono ?_); rintro e w14 ⟨rfl, hb⟩; replace HB := Aside0.mk (below_step (zb HB) hb); clear hb)); try go_wp2_with (first | (go_at_call 83; (with_reducible refine (standbyref01_within.calls ((rd_T61 l0 x6_2).f0) ((rd_T61 l0 x6_2).f1) a1 false _ A9.out).mono ?_); rintro e w14 ⟨rfl, hb⟩; replace HB := Aside0.mk (below_step (zb HB) hb); clear hb)))
                    go_ret
                    exact ⟨by first | rfl | (simp [errW_none, errW_some] <;> rfl) | (simp [*, errW_none, errW_some] <;> rfl), zb HB⟩
              · rw [if_neg c7] at H
                exact absurd H (by simp)
            · rw [if_neg c6] at H
              have c6b0 : decide (x6_2 < (l0.length : Int)) = false := decide_eq_false c6
              clear c6
              obtain rfl := Option.some.inj H
              go_wp2
              repeat (go_quiet (fail); try go_wp2)
              go_ret
              exact ⟨by first | rfl | (simp [errW_none, errW_some] <;> rfl) | (simp [*, errW_none, errW_some] <;> rfl), zb HB⟩
end Go.Proofs.YtdplnbmioioniaaGreat.Pq
end
section
namespace Go.Proofs.YtdplnbmioioniaaGreat.Pq
open Go.RowKit Go.Proofs.YtdplnbmioioniaaGreatW.PrintWords Go.Proofs.YtdplnbmioioniaaGreatW.PrintLast Go.Proofs.YtdplnbmioioniaaGreatW.PrintMore
attribute [local go_sem] max2_int min2_int max_two min_two max_three min_three max_four min_four
set_option linter.unusedVariables false
set_option linter.unusedSimpArgs false
def standbyref45_Fit.l0 : Nat → List (List (S59)) → List (List (S61)) → Int → Option (Int)
  | 0, _, _, _ => none
  | k + 1, x0, x1, x5 => if x5 < (x1.length : Int) then (if 0 ≤ x5 then (if x5 < (x0.length : Int) then ((standbyref01_Check.f k (rd_L7 x1 x5) ((rd_L2 x0 x5).length : Int)).bind fun t284 => (if t284 = 0 then (standbyref45_Fit.l0 k x0 x1 (wrap64 (x5 + 1))) else (some 3))) else (none)) else (none)) else (some 0)
def standbyref45_Fit.f (k : Nat) (l0 : List (List (S59))) (l1 : List (List (S61))) : Option (Int) := if (l1.length : Int) = (l0.length : Int) then (standbyref45_Fit.l0 k l0 l1 0) else (some 6)
def standbyref45_Fit.T6 : Bool × List (List Nat × List Nat) := (true, [([], []), ([], []), ([0, 1], [0, 1]), ([2], [2]), ([], []), ([], []), ([4, 5], [4, 5]), ([6], [6]), ([7], [7]), ([3, 8], [3, 8]), ([9], [9])])
def standbyref45_Fit.B6 : List Nat := [0, 0, 3, 7, 0, 0, 48, 112, 240, 511, 1023]
theorem standbyref45_Fit.tab6 : rtab .any (opsOf Tryz.f29 6) = standbyref45_Fit.T6 := by kernel_rfl
theorem standbyref45_Fit.bits6 : waitsOk standbyref45_Fit.T6.2 standbyref45_Fit.B6 = true := by kernel_rfl
set_option maxHeartbeats 8000000 in
set_option maxRecDepth 100000 in
theorem standbyref45_Fit.calls (k : Nat) (A0 : Option Addr) (c0 : Nat) (l0 : List (List (S59))) (A1 : Option Addr) (c1 : Nat) (l1 : List (List (S61))) (r : Int) (w : World) (hr0 : Kd.C (Kd.slice 59 k59) w A0 l0.length l0) (hc0 : l0.length ≤ c0) (hr1 : Kd.C (Kd.slice 61 k61) w A1 l1.length l1) (hc1 : l1.length ≤ c1) (h : standbyref45_Fit.f k l0 l1 = some r) :
    Calls Tryz.prog 29 #[.slice A0 l0.length c0, .slice A1 l1.length c1] w fun e w' => e = .returned (.int .i64 r) ∧ Below w.heap.size w w' := by
  have HR0 := Aside0.mk hr0
  have HC0 := Aside0.mk hc0
  clear hr0 hc0
  have HR1 := Aside0.mk hr1
  have HC1 := Aside0.mk hc1
  clear hr1 hc1
  have HB := Aside0.mk (Below.refl w.heap.size w)
  have H : (if (l1.length : Int) = (l0.length : Int) then (standbyref45_Fit.l0 k l0 l1 0) else (some 6)) = some r := h
  clear h
  by_cases c3 : (l1.length : Int) = (l0.length : Int)
  · rw [if_pos c3] at H
    have c3b0 : ((l1.length : Int) == (l0.length : Int)) = true := beq_iff_eq.mpr c3
    have c3b1 : ((l1.length : Int) != (l0.length : Int)) = false := bne_eq_false_iff_eq.mpr c3
    have c3b2 : (l1.length == l0.length) = true := by first | simpa using c3 | (simp at c3 ⊢; omega)
    clear c3
    have H' := Aside0.mk H
    clear H
    go_enter Tryz.func29, Tryz.ntmps29
    go_wp2
    go_loopg [5] k (fun kq v5 w' => ∃ (x5_1 : Int), v5 = .int .i64 x5_1 ∧ Aside0 (standbyref45_Fit.l0 kq l0 l1 x5_1 = some r) ∧ Aside0 (kq ≤ k) ∧ Aside0 (Below w.heap.size w w'))
    case atStart => exact ⟨(0), (by first | rfl | (simp; done) | (simp [*]; done)), H', ⟨Nat.le_refl _⟩, ⟨zb HB⟩⟩
    case round =>
      clear H'
      try clear c1
      try clear c2
      try clear p2
      try clear c3
      try clear c3b0
      try clear c3b1
      try clear c3b2
      obtain ⟨x5_1, rfl, HA, HK1, HB⟩ := hrel
      cases gk with
      | zero => exact absurd HA.out (by simp [standbyref45_Fit.l0])
      | succ k1 =>
        have H := HA.out
        clear HA
        simp only [standbyref45_Fit.l0] at H
        by_cases c4 : x5_1 < (l1.length : Int)
        · rw [if_pos c4] at H
          have c4b0 : decide (x5_1 < (l1.length : Int)) = true := decide_eq_true c4
          clear c4
          by_cases c5 : 0 ≤ x5_1
          · rw [if_pos c5] at H
            have c5b0 : decide (0 ≤ x5_1) = true := decide_eq_true c5
            clear c5
            by_cases c6 : x5_1 < (l0.length : Int)
            · rw [if_pos c6] at H
              have c6b0 : decide (x5_1 < (l0.length : Int)) = true := decide_eq_true c6
              clear c6
              replace H := Option.bind_eq_some_iff.mp H
              obtain ⟨t284, A70, H⟩ := H
              replace H : (if t284 = 0 then (standbyref45_Fit.l0 k1 l0 l1 (wrap64 (x5_1 + 1))) else (some 3)) = some r := H
              have A7 := Aside0.mk A70
              clear A70
              by_cases c8 : t284 = 0
              · rw [if_pos c8] at H
                have c8b0 : (t284 == 0) = true := beq_iff_eq.mpr c8
                have c8b1 : (t284 != 0) = false := bne_eq_false_iff_eq.mpr c8
                clear c8
                have H' := Aside0.mk H
                clear H
                try go_wp2
                replace HB := Aside0.mk (below_drew1 HB.out)
                have p282 : 0 ≤ (x5_1 : Int) := of_decide_eq_true (by first | (with_reducible assumption) | assumption)
                have q282 : x5_1 < (l1.length : Int) := of_decide_eq_true (by first | (with_reducible assumption) | assumption)
                obtain ⟨ad282, A282_0, c282_0, e282, hx282_0, hl282_0, hi282_0⟩ := at_L7 HR1.out x5_1 p282 q282
                have hw282_0 := hx282_0
                cases e282
                replace hx282_0 := (HB.out.cell (World.block_lt_of_cell? w _ hx282_0)).trans hx282_0
                have HR282_0 := Aside0.mk hi282_0
                have HC282_0 := Aside0.mk hl282_0
                clear hi282_0 hl282_0
                replace p282 := eq_true p282
                replace q282 := eq_true q282
                have p283 : 0 ≤ (x5_1 : Int) := of_decide_eq_true (by first | (with_reducible assumption) | assumption)
                have q283 : x5_1 < (l0.length : Int) := of_decide_eq_true (by first | (with_reducible assumption) | assumption)
                obtain ⟨ad283, A283_0, c283_0, e283, hx283_0, hl283_0, hi283_0⟩ := at_L2 HR0.out x5_1 p283 q283
                have hw283_0 := hx283_0
                cases e283
                replace hx283_0 := (HB.out.cell (World.block_lt_of_cell? w _ hx283_0)).trans hx283_0
                have HR283_0 := Aside0.mk hi283_0
                have HC283_0 := Aside0.mk hl283_0
                clear hi283_0 hl283_0
                replace p283 := eq_true p283
                replace q283 := eq_true q283
                refine start_ (n := 11) (S := fun w' => w'.cell? (ad282.add (x5_1).toNat) = some (.slice A282_0 (rd_L7 l1 x5_1).length c282_0) ∧ w'.cell? (ad283.add (x5_1).toNat) = some (.slice A283_0 (rd_L2 l0 x5_1).length c283_0)) (ds := []) #[false, false, false, false, false, false, false, false, false, false, false] (by kernel_rfl) rfl rfl ⟨((HB.out.cell (World.block_lt_of_cell? w _ hw282_0)).trans hw282_0), ((HB.out.cell (World.block_lt_of_cell? w _ hw283_0)).trans hw283_0)⟩ (fun hHeld => ?_); refine with_tabW standbyref45_Fit.tab6 standbyref45_Fit.bits6 (fun HT_ HW_ => ?_)
                generalize wr.drew = w9 at HB HR282_0 HR283_0 hx282_0 hx283_0 hHeld ⊢
                refine zp 0 17 HT_.out ?_
                refine zp 1 18 HT_.out ?_
                refine zp 2 19 HT_.out ?_
                refine zp 4 21 HT_.out ?_
                refine zp 5 22 HT_.out ?_
                refine zp 6 23 HT_.out ?_
                refine take_ (i := 3) (N := some 20) (v := ?_) (a' := ?_) #[true, true, true, true, true, true, true, false, false, false, false] rfl rfl (take_ofW HT_.out HW_.out (by kernel_rfl)) (fun _ _ _ h => h) (Or.inl ⟨by rfl, ?_⟩) hHeld ?_ ?_
                rotate_left
                · rintro w' ⟨s0, s1⟩
                  go_simp
                  with_reducible rfl
                rotate_left
                · simp only [Act.put, List.setIfInBounds_toArray, List.set_cons_zero, List.set_cons_succ, i64_w, i32_w]
                  rfl
                refine take_ (i := 7) (N := some 24) (v := ?_) (a' := ?_) #[true, true, true, true, true, true, true, true, false, false, false] rfl rfl (take_ofW HT_.out HW_.out (by kernel_rfl)) (fun _ _ _ h => h) (Or.inl ⟨by rfl, ?_⟩) hHeld ?_ ?_
                rotate_left
                · rintro w' ⟨s0, s1⟩
                  go_simp
                  with_reducible rfl
                rotate_left
                · simp only [Act.put, List.setIfInBounds_toArray, List.set_cons_zero, List.set_cons_succ, i64_w, i32_w]
                  rfl
                refine zp 8 25 HT_.out ?_
                refine one_ (i := 9) (N := some 26) #[true, true, true, true, true, true, true, true, true, true, false] rfl rfl (one_of HT_.out (by kernel_rfl)) (by decide) (fun K hK => ?_)
                refine goes_ Tryz.func60 (by kernel_rfl) rfl #[.slice A282_0 (rd_L7 l1 x5_1).length c282_0, .int .i64 ((rd_L2 l0 x5_1).length : Int)] (by rfl) rfl rfl (by (try simp only [List.map_toArray, List.map_cons, List.map_nil]); first | done | rfl | (simp only [List.length_drop, List.length_take]; rfl)) ?_
                with_reducible refine (standbyref01_Check.calls k1 _ _ (rd_L7 l1 x5_1) ((rd_L2 l0 x5_1).length : Int) t284 _ ?side1 ?side2 A7.out).mono ?_
                (case side1 => exact zc HR282_0 HB)
                (case side2 => exact HC282_0.out)
                rintro e w10 ⟨rfl, hb⟩
                refine ⟨_, rfl, ?_⟩
                replace HB := Aside0.mk (below_step (zb HB) hb)
                (try clear hb)
                (try clear hb2)
                (try clear hk)
                (try clear hi)
                refine hK.out _ _ ⟨((HB.out.cell (World.block_lt_of_cell? w _ hw282_0)).trans hw282_0), ((HB.out.cell (World.block_lt_of_cell? w _ hw283_0)).trans hw283_0)⟩ (fun hHeld => ?_)
                clear hK K
                refine norm_ (a' := ?_) ?_ ?_
                rotate_left
                · show Act.put _ (some 26) _ = _
                  simp only [Act.put, List.setIfInBounds_toArray, List.set_cons_zero, List.set_cons_succ, i64_w, i32_w]
                  rfl
                refine zp 10 27 HT_.out ?_
                refine done_ (done_of HT_.out (by kernel_rfl)) ?_
                try go_wp2
                go_roundg k1
                case measure => have := HK1.out; omega
                case rel => exact ⟨(wrap64 (x5_1 + 1)), (by first | rfl | (simp; done) | (simp [*]; done)), H', ⟨by have := HK1.out; omega⟩, ⟨zb HB⟩⟩
              · rw [if_neg c8] at H
                have c8b0 : (t284 == 0) = false := beq_eq_false_iff_ne.mpr c8
                have c8b1 : (t284 != 0) = true := bne_iff_ne.mpr c8
                obtain rfl := Option.some.inj H
                try go_wp2
                replace HB := Aside0.mk (below_drew1 HB.out)
                have p282 : 0 ≤ (x5_1 : Int) := of_decide_eq_true (by first | (with_reducible assumption) | assumption)
                have q282 : x5_1 < (l1.length : Int) := of_decide_eq_true (by first | (with_reducible assumption) | assumption)
                obtain ⟨ad282, A282_0, c282_0, e282, hx282_0, hl282_0, hi282_0⟩ := at_L7 HR1.out x5_1 p282 q282
                have hw282_0 := hx282_0
                cases e282
                replace hx282_0 := (HB.out.cell (World.block_lt_of_cell? w _ hx282_0)).trans hx282_0
                have HR282_0 := Aside0.mk hi282_0
                have HC282_0 := Aside0.mk hl282_0
                clear hi282_0 hl282_0
                replace p282 := eq_true p282
                replace q282 := eq_true q282
                have p283 : 0 ≤ (x5_1 : Int) := of_decide_eq_true (by first | (with_reducible assumption) | assumption)
                have q283 : x5_1 < (l0.length : Int) := of_decide_eq_true (by first | (with_reducible assumption) | assumption)
                obtain ⟨ad283, A283_0, c283_0, e283, hx283_0, hl283_0, hi283_0⟩ := at_L2 HR0.out x5_1 p283 q283
                have hw283_0 := hx283_0
                cases e283
                replace hx283_0 := (HB.out.cell (World.block_lt_of_cell? w _ hx283_0)).trans hx283_0
                have HR283_0 := Aside0.mk hi283_0
                have HC283_0 := Aside0.mk hl283_0
                clear hi283_0 hl283_0
                replace p283 := eq_true p283
                replace q283 := eq_true q283
                refine start_ (n := 11) (S := fun w' => w'.cell? (ad282.add (x5_1).toNat) = some (.slice A282_0 (rd_L7 l1 x5_1).length c282_0) ∧ w'.cell? (ad283.add (x5_1).toNat) = some (.slice A283_0 (rd_L2 l0 x5_1).length c283_0)) (ds := []) #[false, false, false, false, false, false, false, false, false, false, false] (by kernel_rfl) rfl rfl ⟨((HB.out.cell (World.block_lt_of_cell? w _ hw282_0)).trans hw282_0), ((HB.out.cell (World.block_lt_of_cell? w _ hw283_0)).trans hw283_0)⟩ (fun hHeld => ?_); refine with_tabW standbyref45_Fit.tab6 standbyref45_Fit.bits6 (fun HT_ HW_ => ?_)
                generalize wr.drew = w11 at HB HR282_0 HR283_0 hx282_0 hx283_0 hHeld ⊢
                refine zp 0 17 HT_.out ?_
                refine zp 1 18 HT_.out ?_
                refine zp 2 19 HT_.out ?_
                refine zp 4 21 HT_.out ?_
                refine zp 5 22 HT_.out ?_
                refine zp 6 23 HT_.out ?_
                refine take_ (i := 3) (N := some 20) (v := ?_) (a' := ?_) #[true, true, true, true, true, true, true, false, false, false, false] rfl rfl (take_ofW HT_.out HW_.out (by kernel_rfl)) (fun _ _ _ h => h) (Or.inl ⟨by rfl, ?_⟩) hHeld ?_ ?_
                rotate_left
                · rintro w' ⟨s0, s1⟩
                  go_simp
                  with_reducible rfl
                rotate_left
                · simp only [Act.put, List.setIfInBounds_toArray, List.set_cons_zero, List.set_cons_succ, i64_w, i32_w]
                  rfl
                refine take_ (i := 7) (N := some 24) (v := ?_) (a' := ?_) #[true, true, true, true, true, true, true, true, false, false, false] rfl rfl (take_ofW HT_.out HW_.out (by kernel_rfl)) (fun _ _ _ h => h) (Or.inl ⟨by rfl, ?_⟩) hHeld ?_ ?_
                rotate_left
                · rintro w' ⟨s0, s1⟩
                  go_simp
                  with_reducible rfl
                rotate_left
                · simp only [Act.put, List.setIfInBounds_toArray, List.set_cons_zero, List.set_cons_succ, i64_w, i32_w]
                  rfl
                refine zp 8 25 HT_.out ?_
                refine one_ (i := 9) (N := some 26) #[true, true, true, true, true, true, true, true, true, true, false] rfl rfl (one_of HT_.out (by kernel_rfl)) (by decide) (fun K hK => ?_)
                refine goes_ Tryz.func60 (by kernel_rfl) rfl #[.slice A282_0 (rd_L7 l1 x5_1).length c282_0, .int .i64 ((rd_L2 l0 x5_1).length : Int)] (by rfl) rfl rfl (by (try simp only [List.map_toArray, List.map_cons, List.map_nil]); first | done | rfl | (simp only [List.length_drop, List.length_take]; rfl)) ?_
                with_reducible refine (standbyref01_Check.calls k1 _ _ (rd_L7 l1 x5_1) ((rd_L2 l0 x5_1).length : Int) t284 _ ?side1 ?side2 A7.out).mono ?_
                (case side1 => exact zc HR282_0 HB)
                (case side2 => exact HC282_0.out)
                rintro e w12 ⟨rfl, hb⟩
                refine ⟨_, rfl, ?_⟩
                replace HB := Aside0.mk (below_step (zb HB) hb)
                (try clear hb)
                (try clear hb2)
                (try clear hk)
                (try clear hi)
                refine hK.out _ _ ⟨((HB.out.cell (World.block_lt_of_cell? w _ hw282_0)).trans hw282_0), ((HB.out.cell (World.block_lt_of_cell? w _ hw283_0)).trans hw283_0)⟩ (fun hHeld => ?_)
                clear hK K
                refine norm_ (a' := ?_) ?_ ?_
                rotate_left
                · show Act.put _ (some 26) _ = _
                  simp only [Act.put, List.setIfInBounds_toArray, List.set_cons_zero, List.set_cons_succ, i64_w, i32_w]
                  rfl
                refine zp 10 27 HT_.out ?_
                refine done_ (done_of HT_.out (by kernel_rfl)) ?_
                try go_wp2
                go_ret
                exact ⟨by first | rfl | (simp [errW_none, errW_some] <;> rfl) | (simp [*, errW_none, errW_some] <;> rfl), zb HB⟩
            · rw [if_neg c6] at H
              exact absurd H (by simp)
          · rw [if_neg c5] at H
            exact absurd H (by simp)
        · rw [if_neg c4] at H
          have c4b0 : decide (x5_1 < (l1.length : Int)) = false := decide_eq_false c4
          clear c4
          obtain rfl := Option.some.inj H
          go_wp2
          go_ret
          exact ⟨by first | rfl | (simp [errW_none, errW_some] <;> rfl) | (simp [*, errW_none, errW_some] <;> rfl), zb HB⟩
  · rw [if_neg c3] at H
    have c3b0 : ((l1.length : Int) == (l0.length : Int)) = false := beq_eq_false_iff_ne.mpr c3
    have c3b1 : ((l1.length : Int) != (l0.length : Int)) = true := bne_iff_ne.mpr c3
    have c3b2 : (l1.length == l0.length) = false := by first | simpa using c3 | (simp at c3 ⊢; omega)
    obtain rfl := Option.some.inj H
    go_enter Tryz.func29, Tryz.ntmps29
    go_wp2
    go_ret
    exact ⟨by first | rfl | (simp [errW_none, errW_some] <;> rfl) | (simp [*, errW_none, errW_some] <;> rfl), zb HB⟩
end Go.Proofs.YtdplnbmioioniaaGreat.Pq
end
section
namespace Go.Proofs.YtdplnbmioioniaaGreat.Pq
open Go.RowKit Go.Proofs.YtdplnbmioioniaaGreatW.PrintWords Go.Proofs.YtdplnbmioioniaaGreatW.PrintLast Go.Proofs.YtdplnbmioioniaaGreatW.PrintMore
attribute [local go_sem] max2_int min2_int max_two min_two max_three min_three max_four min_four
set_option linter.unusedVariables false
set_option linter.unusedSimpArgs false
mutual
def standbyref45_Writes.l0 : Nat → List (List (S59)) → List (List (S61)) → List (S66) → Int → Option ((List (S66)) × Int)
  | 0, _, _, _, _ => none
  | k + 1, x0, x1, x8, x9 => if x9 < (x1.length : Int) then (standbyref45_Writes.l1 k x0 x1 x8 x9 0) else (some (x8, 0))
def standbyref45_Writes.l1 : Nat → List (List (S59)) → List (List (S61)) → List (S66) → Int → Int → Option ((List (S66)) × Int)
  | 0, _, _, _, _, _ => none
  | k + 1, x0, x1, x8, x9, x10 => if 0 ≤ x9 then (if x9 < (x1.length : Int) then (if x10 < ((rd_L7 x1 x9).length : Int) then (if 0 ≤ x10 then (if x9 < (x0.length : Int) then (if 0 ≤ ((rd_T61 (rd_L7 x1 x9) x10).f0) then (if ((rd_T61 (rd_L7 x1 x9) x10).f0) ≤ (wrap64 (((rd_T61 (rd_L7 x1 x9) x10).f0) + ((rd_T61 (rd_L7 x1 x9) x10).f1))) then (if (wrap64 (((rd_T61 (rd_L7 x1 x9) x10).f0) + ((rd_T61 (rd_L7 x1 x9) x10).f1))) ≤ ((rd_L2 x0 x9).length : Int) then ((some (((rd_L2 x0 x9).take ((wrap64 (((rd_T61 (rd_L7 x1 x9) x10).f0) + ((rd_T61 (rd_L7 x1 x9) x10).f1))) : Int).toNat).drop (((rd_T61 (rd_L7 x1 x9) x10).f0) : Int).toNat : List (S59))).bind fun y292 => (if ([] : List (S59)).length + y292.length < 17592186044416 then (if x8.length < 3518437208883 then (standbyref45_Writes.l1 k x0 x1 (x8 ++ [(⟨x9, (rd_T61 (rd_L7 x1 x9) x10).f0, (([] : List (S59)) ++ y292)⟩ : S66)]) x9 (wrap64 (x10 + 1))) else (none)) else (none))) else (none)) else (none)) else (none)) else (none)) else (none)) else (standbyref45_Writes.l0 k x0 x1 x8 (wrap64 (x9 + 1)))) else (none)) else (none)
end
def standbyref45_Writes.f (k : Nat) (l0 : List (List (S59))) (l1 : List (List (S61))) : Option ((List (S66)) × Int) := (standbyref07_Check.f k l0).bind fun t285 => (if t285 = 0 then ((standbyref45_Fit.f k l0 l1).bind fun t286 => (if t286 = 0 then (standbyref45_Writes.l0 k l0 l1 ([] : List (S66)) 0) else (some (([] : List (S66)), t286)))) else (some (([] : List (S66)), t285)))
def standbyref45_Writes.T16 : Bool × List (List Nat × List Nat) := (true, [([], []), ([], []), ([], []), ([2], [2]), ([], []), ([], []), ([], []), ([5, 6], [5, 6]), ([7], [7]), ([], []), ([9], [9]), ([], []), ([11], [11]), ([], []), ([13], [13]), ([12, 14], [12, 14]), ([8, 10, 15], [8, 10, 15]), ([4, 16], [4, 16]), ([1, 3, 17], [1, 3, 17]), ([18], [18]), ([0, 19, 17], [0, 19]), ([20, 20, 0, 1, 2, 3, 4, 5, 6, 7, 8, 9, 10, 11, 12, 13, 14, 15, 16, 17, 18, 19, 20], [0, 20])])
def standbyref45_Writes.B16 : List Nat := [0, 0, 0, 4, 0, 0, 0, 96, 224, 0, 512, 0, 2048, 0, 8192, 30720, 65504, 131056, 262142, 524286, 1048575, 2097151]
theorem standbyref45_Writes.tab16 : rtab .any (opsOf Tryz.f9 16) = standbyref45_Writes.T16 := by kernel_rfl
theorem standbyref45_Writes.bits16 : waitsOk standbyref45_Writes.T16.2 standbyref45_Writes.B16 = true := by kernel_rfl
set_option maxHeartbeats 8000000 in
set_option maxRecDepth 100000 in
theorem standbyref45_Writes.calls (k : Nat) (A0 : Option Addr) (c0 : Nat) (l0 : List (List (S59))) (A1 : Option Addr) (c1 : Nat) (l1 : List (List (S61))) (r1 : List (S66)) (r2 : Int) (w : World) (hr0 : Kd.C (Kd.slice 59 k59) w A0 l0.length l0) (hc0 : l0.length ≤ c0) (hr1 : Kd.C (Kd.slice 61 k61) w A1 l1.length l1) (hc1 : l1.length ≤ c1) (h : standbyref45_Writes.f k l0 l1 = some (r1, r2)) :
    Calls Tryz.prog 9 #[.slice A0 l0.length c0, .slice A1 l1.length c1] w fun e w' => ∃ v0_ : Value, e = .returned (.tuple #[v0_, .int .i64 r2]) ∧ Kd.S k66 66 w' w.heap.size (fun _ => True) v0_ r1 ∧ Below w.heap.size w w' := by
  have hu61 := Tryz.underlying61
  have hu66 := Tryz.underlying66
  have HR0 := Aside0.mk hr0
  have HC0 := Aside0.mk hc0
  clear hr0 hc0
  have HR1 := Aside0.mk hr1
  have HC1 := Aside0.mk hc1
  clear hr1 hc1
  have HB := Aside0.mk (Below.refl w.heap.size w)
  have H : ((standbyref07_Check.f k l0).bind fun t285 => (if t285 = 0 then ((standbyref45_Fit.f k l0 l1).bind fun t286 => (if t286 = 0 then (standbyref45_Writes.l0 k l0 l1 ([] : List (S66)) 0) else (some (([] : List (S66)), t286)))) else (some (([] : List (S66)), t285)))) = some (r1, r2) := h
  clear h
  replace H := Option.bind_eq_some_iff.mp H
  obtain ⟨t285, A30, H⟩ := H
  replace H : (if t285 = 0 then ((standbyref45_Fit.f k l0 l1).bind fun t286 => (if t286 = 0 then (standbyref45_Writes.l0 k l0 l1 ([] : List (S66)) 0) else (some (([] : List (S66)), t286)))) else (some (([] : List (S66)), t285))) = some (r1, r2) := H
  have A3 := Aside0.mk A30
  clear A30
  by_cases c4 : t285 = 0
  · rw [if_pos c4] at H
    have c4b0 : (t285 == 0) = true := beq_iff_eq.mpr c4
    have c4b1 : (t285 != 0) = false := bne_eq_false_iff_eq.mpr c4
    clear c4
    replace H := Option.bind_eq_some_iff.mp H
    obtain ⟨t286, A50, H⟩ := H
    replace H : (if t286 = 0 then (standbyref45_Writes.l0 k l0 l1 ([] : List (S66)) 0) else (some (([] : List (S66)), t286))) = some (r1, r2) := H
    have A5 := Aside0.mk A50
    clear A50
    by_cases c6 : t286 = 0
    · rw [if_pos c6] at H
      have c6b0 : (t286 == 0) = true := beq_iff_eq.mpr c6
      have c6b1 : (t286 != 0) = false := bne_eq_false_iff_eq.mpr c6
      clear c6
      have H' := Aside0.mk H
      clear H
      go_enter Tryz.func9, Tryz.ntmps9
      go_wp2_with (first | ((with_reducible refine gate_callee (f := 28) rfl ?_); refine zG (some 14) Tryz.func28 #[.slice A0 l0.length c0] ?_; (with_reducible refine (standbyref07_Check.calls k _ _ l0 t285 _ ?side1 ?side2 A3.out).mono ?_); (case side1 => repeat (first | exact HR0.out | (with_reducible refine Kd.C_alloc ?_ _) | (with_reducible refine Kd.C_drewN ?_ _) | (with_reducible refine Kd.C_drew ?_))); (case side2 => exact HC0.out); rintro e w7 ⟨rfl, hb⟩; refine ⟨_, rfl, ?_⟩; replace HB := Aside0.mk (below_step (zb HB) hb); clear hb) | ((with_reducible refine gate_callee (f := 29) rfl ?_); refine zG (some 20) Tryz.func29 #[.slice A0 l0.length c0, .slice A1 l1.length c1] ?_; (with_reducible refine (standbyref45_Fit.calls k _ _ l0 _ _ l1 t286 _ ?side1 ?side2 ?side3 ?side4 A5.out).mono ?_); (case side1 => exact zc HR0 HB); (case side2 => exact HC0.out); (case side3 => exact zc HR1 HB); (case side4 => exact HC1.out); rintro e w8 ⟨rfl, hb⟩; refine ⟨_, rfl, ?_⟩; replace HB := Aside0.mk (below_step (zb HB) hb); clear hb))
      go_loopg [8, 9] k (fun kq v8 v9 w' => ∃ (x8_1 : List (S66)) (x9_1 : Int), v9 = .int .i64 x9_1 ∧ Aside0 (standbyref45_Writes.l0 kq l0 l1 x8_1 x9_1 = some (r1, r2)) ∧ Aside0 (kq ≤ k) ∧ Aside0 (Kd.S k66 66 w' w.heap.size (fun _ => True) v8 x8_1) ∧ Aside0 (Below w.heap.size w w'))
      case atStart => exact ⟨(([] : List (S66))), (0), (by first | rfl | (simp; done) | (simp [*]; done)), H', ⟨Nat.le_refl _⟩, ⟨by first | exact Kd.S_nil _ _ _ _ _ | exact Kd.N_nil _ _ _ _ _ | exact Kd.V_nil _ _ _ _ _ | exact Kd.Q_nil _ _ _ _ _ | exact Kd.R_nil _ _ _ _ _⟩, ⟨zb HB⟩⟩
      case round =>
        clear H'
        try clear c1
        try clear c2
        try clear p2
        try clear c4
        try clear c4b0
        try clear c4b1
        try clear c6
        try clear c6b0
        try clear c6b1
        obtain ⟨x8_1, x9_1, rfl, HA, HK1, HO_8, HB⟩ := hrel
        cases gk with
        | zero => exact absurd HA.out (by simp [standbyref45_Writes.l0])
        | succ k1 =>
          have H := HA.out
          clear HA
          simp only [standbyref45_Writes.l0] at H
          by_cases c9 : x9_1 < (l1.length : Int)
          · rw [if_pos c9] at H
            have c9b0 : decide (x9_1 < (l1.length : Int)) = true := decide_eq_true c9
            clear c9
            have H' := Aside0.mk H
            clear H
            go_wp2
            go_loopg [8, 10] k1 (fun kq v8 v10 w' => ∃ (x8_2 : List (S66)) (x10_2 : Int), v10 = .int .i64 x10_2 ∧ Aside0 (standbyref45_Writes.l1 kq l0 l1 x8_2 x9_1 x10_2 = some (r1, r2)) ∧ Aside0 (kq ≤ k1) ∧ Aside0 (Kd.S k66 66 w' w.heap.size (fun _ => True) v8 x8_2) ∧ Aside0 (Below w.heap.size w w'))
            case atStart => exact ⟨(x8_1), (0), (by first | rfl | (simp; done) | (simp [*]; done)), H', ⟨Nat.le_refl _⟩, ⟨by (with_reducible repeat (first | apply Kd.S_alloc | apply Kd.S_drewN | apply Kd.S_drew)); exact HO_8.out⟩, ⟨zb HB⟩⟩
            case round =>
              clear H'
              try clear c1
              try clear c2
              try clear p2
              try clear c4
              try clear c4b0
              try clear c4b1
              try clear c6
              try clear c6b0
              try clear c6b1
              try clear c9
              try clear c9b0
              try clear p2
              obtain ⟨x8_2, x10_2, rfl, HA, HK2, HO_8, HB⟩ := hrel
              cases gk with
              | zero => exact absurd HA.out (by simp [standbyref45_Writes.l1])
              | succ k2 =>
                have H := HA.out
                clear HA
                simp only [standbyref45_Writes.l1] at H
                by_cases c10 : 0 ≤ x9_1
                · rw [if_pos c10] at H
                  have c10b0 : decide (0 ≤ x9_1) = true := decide_eq_true c10
                  clear c10
                  by_cases c11 : x9_1 < (l1.length : Int)
                  · rw [if_pos c11] at H
                    have c11b0 : decide (x9_1 < (l1.length : Int)) = true := decide_eq_true c11
                    clear c11
                    by_cases c12 : x10_2 < ((rd_L7 l1 x9_1).length : Int)
                    · rw [if_pos c12] at H
                      have c12b0 : decide (x10_2 < ((rd_L7 l1 x9_1).length : Int)) = true := decide_eq_true c12
                      clear c12
                      by_cases c13 : 0 ≤ x10_2
                      · rw [if_pos c13] at H
                        have c13b0 : decide (0 ≤ x10_2) = true := decide_eq_true c13
                        clear c13
                        by_cases c14 : x9_1 < (l0.length : Int)
                        · rw [if_pos c14] at H
                          have c14b0 : decide (x9_1 < (l0.length : Int)) = true := decide_eq_true c14
                          clear c14
                          by_cases c15 : 0 ≤ ((rd_T61 (rd_L7 l1 x9_1) x10_2).f0)
                          · rw [if_pos c15] at H
                            have c15b0 := eq_true c15
                            have c15b1 : decide (0 ≤ ((rd_T61 (rd_L7 l1 x9_1) x10_2).f0)) = true := decide_eq_true c15
                            clear c15
                            by_cases c16 : ((rd_T61 (rd_L7 l1 x9_1) x10_2).f0) ≤ (wrap64 (((rd_T61 (rd_L7 l1 x9_1) x10_2).f0) + ((rd_T61 (rd_L7 l1 x9_1) x10_2).f1)))
                            · rw [if_pos c16] at H
                              have c16b0 := eq_true c16
                              have c16b1 : decide (((rd_T61 (rd_L7 l1 x9_1) x10_2).f0) ≤ (wrap64 (((rd_T61 (rd_L7 l1 x9_1) x10_2).f0) + ((rd_T61 (rd_L7 l1 x9_1) x10_2).f1)))) = true := decide_eq_true c16
                              by_cases c17 : (wrap64 (((rd_T61 (rd_L7 l1 x9_1) x10_2).f0) + ((rd_T61 (rd_L7 l1 x9_1) x10_2).f1))) ≤ ((rd_L2 l0 x9_1).length : Int)
                              · rw [if_pos c17] at H
                                have c17b0 := eq_true c17
                                have c17b1 : decide ((wrap64 (((rd_T61 (rd_L7 l1 x9_1) x10_2).f0) + ((rd_T61 (rd_L7 l1 x9_1) x10_2).f1))) ≤ ((rd_L2 l0 x9_1).length : Int)) = true := decide_eq_true c17
                                obtain ⟨y292, hy292⟩ : ∃ y_ : List (S59), y_ = (((rd_L2 l0 x9_1).take ((wrap64 (((rd_T61 (rd_L7 l1 x9_1) x10_2).f0) + ((rd_T61 (rd_L7 l1 x9_1) x10_2).f1))) : Int).toNat).drop (((rd_T61 (rd_L7 l1 x9_1) x10_2).f0) : Int).toNat) := ⟨_, rfl⟩
                                replace H : (if ([] : List (S59)).length + y292.length < 17592186044416 then (if x8_2.length < 3518437208883 then (standbyref45_Writes.l1 k2 l0 l1 (x8_2 ++ [(⟨x9_1, (rd_T61 (rd_L7 l1 x9_1) x10_2).f0, (([] : List (S59)) ++ y292)⟩ : S66)]) x9_1 (wrap64 (x10_2 + 1))) else (none)) else (none)) = some (r1, r2) := by first | (rw [hy292]; with_reducible exact H) | (have H2_ := (Option.bind_some _ _).symm.trans H; rw [hy292]; with_reducible exact H2_) | (have H2_ := (Option.bind_some _ _).symm.trans H; with_reducible exact H2_) | with_reducible exact H | (rw [hy292]; exact H) | exact H
                                have Ny292 := Aside0.mk hy292
                                clear hy292
                                by_cases c18 : ([] : List (S59)).length + y292.length < 17592186044416
                                · rw [if_pos c18] at H
                                  have LMc18 := Aside0.mk c18
                                  clear c18
                                  obtain ⟨y296, hy296⟩ : ∃ y_ : List (S59), y_ = (([] : List (S59)) ++ y292) := ⟨_, rfl⟩
                                  replace H : (if x8_2.length < 3518437208883 then (standbyref45_Writes.l1 k2 l0 l1 (x8_2 ++ [(⟨x9_1, (rd_T61 (rd_L7 l1 x9_1) x10_2).f0, y296⟩ : S66)]) x9_1 (wrap64 (x10_2 + 1))) else (none)) = some (r1, r2) := by first | (rw [hy296]; with_reducible exact H) | (have H2_ := (Option.bind_some _ _).symm.trans H; rw [hy296]; with_reducible exact H2_) | (have H2_ := (Option.bind_some _ _).symm.trans H; with_reducible exact H2_) | with_reducible exact H | (rw [hy296]; exact H) | exact H
                                  have Ny296 := Aside0.mk hy296
                                  clear hy296
                                  by_cases c19 : x8_2.length < 3518437208883
                                  · rw [if_pos c19] at H
                                    have LMc19 := Aside0.mk c19
                                    clear c19
                                    obtain ⟨y299, hy299⟩ : ∃ y_ : List (S66), y_ = (x8_2 ++ [(⟨x9_1, (rd_T61 (rd_L7 l1 x9_1) x10_2).f0, y296⟩ : S66)]) := ⟨_, rfl⟩
                                    replace H : (standbyref45_Writes.l1 k2 l0 l1 y299 x9_1 (wrap64 (x10_2 + 1))) = some (r1, r2) := by first | (rw [hy299]; with_reducible exact H) | (have H2_ := (Option.bind_some _ _).symm.trans H; rw [hy299]; with_reducible exact H2_) | (have H2_ := (Option.bind_some _ _).symm.trans H; with_reducible exact H2_) | with_reducible exact H | (rw [hy299]; exact H) | exact H
                                    have Ny299 := Aside0.mk hy299
                                    clear hy299
                                    have H' := Aside0.mk H
                                    clear H
                                    have p287 : 0 ≤ (x9_1 : Int) := of_decide_eq_true (by first | (with_reducible assumption) | assumption)
                                    have q287 : x9_1 < (l1.length : Int) := of_decide_eq_true (by first | (with_reducible assumption) | assumption)
                                    obtain ⟨ad287, A287_0, c287_0, e287, hx287_0, hl287_0, hi287_0⟩ := at_L7 HR1.out x9_1 p287 q287
                                    cases e287
                                    replace hx287_0 := (HB.out.cell (World.block_lt_of_cell? w _ hx287_0)).trans hx287_0
                                    have HR287_0 := Aside0.mk hi287_0
                                    have HC287_0 := Aside0.mk hl287_0
                                    clear hi287_0 hl287_0
                                    replace p287 := eq_true p287
                                    replace q287 := eq_true q287
                                    have p288 : 0 ≤ (x9_1 : Int) := of_decide_eq_true (by first | (with_reducible assumption) | assumption)
                                    have q288 : x9_1 < (l1.length : Int) := of_decide_eq_true (by first | (with_reducible assumption) | assumption)
                                    obtain ⟨ad288, A288_0, c288_0, e288, hx288_0, hl288_0, hi288_0⟩ := at_L7 HR1.out x9_1 p288 q288
                                    obtain rfl : ad287 = ad288 := (by injection e288)
                                    replace hx288_0 := (HB.out.cell (World.block_lt_of_cell? w _ hx288_0)).trans hx288_0
                                    have HR288_0 := Aside0.mk hi288_0
                                    have HC288_0 := Aside0.mk hl288_0
                                    clear hi288_0 hl288_0
                                    replace p288 := eq_true p288
                                    replace q288 := eq_true q288
                                    have ea_ := Option.some.inj (hx287_0.symm.trans hx288_0)
                                    injection ea_ with ea_ en_ ec_
                                    subst ea_
                                    subst ec_
                                    clear en_
                                    have p289 : 0 ≤ (x10_2 : Int) := of_decide_eq_true (by first | (with_reducible assumption) | assumption)
                                    have q289 : x10_2 < ((rd_L7 l1 x9_1).length : Int) := of_decide_eq_true (by first | (with_reducible assumption) | assumption)
                                    obtain ⟨ad289, e289, hx289_0, hx289_1⟩ := at_T61 HR288_0.out x10_2 p289 q289
                                    cases e289
                                    replace hx289_0 := (HB.out.cell (World.block_lt_of_cell? w _ hx289_0)).trans hx289_0
                                    replace hx289_1 := (HB.out.cell (World.block_lt_of_cell? w _ hx289_1)).trans hx289_1
                                    replace p289 := eq_true p289
                                    replace q289 := eq_true q289
                                    try go_wp2_with (first | ((with_reducible refine gate_dst (N := 11) rfl ?_); refine box_event ?hg (N := 11) ?hd (cs := #[.int .i64 0, .int .i64 0]) (t := 61) ?hr ?_; (case hd => rfl); (case hg => rfl); (case hr => first | (go_simp; done) | (go_simp; rfl)); intro gb290 hg w20 hbox hb; have BK290 := Aside0.mk (hbox); have GW290 := Aside0.mk (zg hg HB); have GE290 := Aside0.mk (zg hg HB); replace HO_8 := Aside0.mk (Kd.S_below (zs HO_8.out) hb); replace HB := Aside0.mk (below_step (zb HB) hb); clear hb hbox hg; obtain ⟨⟨hcz21_0, hcz21_1⟩, hfz21_0, hfz21_1⟩ := zc2 BK290))
                                    have n0_ : Aside0 (Kd.S k66 66 ((w20.setCell ⟨gb290, 0, none⟩ (.int .i64 ((rd_T61 (rd_L7 l1 x9_1) x10_2).f0))).setCell ⟨gb290, 1, none⟩ (.int .i64 ((rd_T61 (rd_L7 l1 x9_1) x10_2).f1))) w.heap.size (fun _ => True) u8 x8_2) := ⟨by (with_reducible repeat (first | apply Kd.S_alloc | apply Kd.S_drewN | apply Kd.S_drew)); exact Kd.S_mono (Kd.S_far (p := ⟨gb290, 1, none⟩) (Kd.S_far (p := ⟨gb290, 0, none⟩) (Kd.S_types HO_8.out BK290.out (by decide)) (fun _ hk => hk.2) (.int .i64 ((rd_T61 (rd_L7 l1 x9_1) x10_2).f0))) (fun _ hk => hk.2) (.int .i64 ((rd_T61 (rd_L7 l1 x9_1) x10_2).f1))) (fun _ hk => trivial)⟩
                                    have n1_ : Aside0 (((w20.setCell ⟨gb290, 0, none⟩ (.int .i64 ((rd_T61 (rd_L7 l1 x9_1) x10_2).f0))).setCell ⟨gb290, 1, none⟩ (.int .i64 ((rd_T61 (rd_L7 l1 x9_1) x10_2).f1))).heap[gb290]? = some (.cells #[.int .i64 ((rd_T61 (rd_L7 l1 x9_1) x10_2).f0), .int .i64 ((rd_T61 (rd_L7 l1 x9_1) x10_2).f1)] 61 (0, 0))) := ⟨by (with_reducible repeat (first | refine blk_drewN ?_ _ | refine blk_drew ?_ | refine blk_alloc ?_ _)); refine blk_put (cs := #[.int .i64 ((rd_T61 (rd_L7 l1 x9_1) x10_2).f0), .int .i64 0]) ?_ 1 _ rfl; (with_reducible repeat (first | refine blk_drewN ?_ _ | refine blk_drew ?_ | refine blk_alloc ?_ _)); refine blk_put (cs := #[.int .i64 0, .int .i64 0]) ?_ 0 _ rfl; (with_reducible repeat (first | refine blk_drewN ?_ _ | refine blk_drew ?_ | refine blk_alloc ?_ _)); exact BK290.out⟩
                                    have n2_ : Aside0 (Below w.heap.size w ((w20.setCell ⟨gb290, 0, none⟩ (.int .i64 ((rd_T61 (rd_L7 l1 x9_1) x10_2).f0))).setCell ⟨gb290, 1, none⟩ (.int .i64 ((rd_T61 (rd_L7 l1 x9_1) x10_2).f1)))) := ⟨zb HB⟩
                                    (try clear HO_8)
                                    (try clear BK290)
                                    (try clear HB)
                                    generalize ((w20.setCell ⟨gb290, 0, none⟩ (.int .i64 ((rd_T61 (rd_L7 l1 x9_1) x10_2).f0))).setCell ⟨gb290, 1, none⟩ (.int .i64 ((rd_T61 (rd_L7 l1 x9_1) x10_2).f1))) = w22 at n0_ n1_ n2_ ⊢
                                    have HO_8 := n0_
                                    have BK290 := n1_
                                    have HB := n2_
                                    clear n0_ n1_ n2_
                                    replace HO_8 := Aside0.mk (Kd.S_drew HO_8.out)
                                    replace BK290 := Aside0.mk (blk_drew BK290.out)
                                    replace HB := Aside0.mk (below_drew1 HB.out)
                                    have p291 : 0 ≤ (x9_1 : Int) := of_decide_eq_true (by first | (with_reducible assumption) | assumption)
                                    have q291 : x9_1 < (l0.length : Int) := of_decide_eq_true (by first | (with_reducible assumption) | assumption)
                                    obtain ⟨ad291, A291_0, c291_0, e291, hx291_0, hl291_0, hi291_0⟩ := at_L2 HR0.out x9_1 p291 q291
                                    have hw291_0 := hx291_0
                                    cases e291
                                    replace hx291_0 := (HB.out.cell (World.block_lt_of_cell? w _ hx291_0)).trans hx291_0
                                    have HR291_0 := Aside0.mk hi291_0
                                    have HC291_0 := Aside0.mk hl291_0
                                    clear hi291_0 hl291_0
                                    replace p291 := eq_true p291
                                    replace q291 := eq_true q291
                                    have q24 : ((wrap64 (((rd_T61 (rd_L7 l1 x9_1) x10_2).f0) + ((rd_T61 (rd_L7 l1 x9_1) x10_2).f1))) : Int) ≤ (((rd_L2 l0 x9_1).length : Int) : Int) := of_decide_eq_true (by first | (with_reducible assumption) | assumption)
                                    obtain ⟨i024, hi024, _, hsz24, _⟩ := info_parts info59
                                    have hroom24 : (rd_L2 l0 x9_1).length ≤ c291_0 := HC291_0.out
                                    have hC24 : Kd.C k59 _ A291_0 (rd_L2 l0 x9_1).length (rd_L2 l0 x9_1) := HR291_0.out
                                    have ql24 : (((rd_T61 (rd_L7 l1 x9_1) x10_2).f0) : Int) ≤ ((wrap64 (((rd_T61 (rd_L7 l1 x9_1) x10_2).f0) + ((rd_T61 (rd_L7 l1 x9_1) x10_2).f1))) : Int) := of_decide_eq_true (by first | (with_reducible assumption) | assumption)
                                    have q024 : (0 : Int) ≤ (((rd_T61 (rd_L7 l1 x9_1) x10_2).f0) : Int) := of_decide_eq_true (by first | (with_reducible assumption) | assumption)
                                    have hcut24 := cut_mid (P := Tryz.prog) 56 59 .i64 .i64 Tryz.underlying56 hi024 8 hsz24 A291_0 (rd_L2 l0 x9_1).length c291_0 ((rd_T61 (rd_L7 l1 x9_1) x10_2).f0) (wrap64 (((rd_T61 (rd_L7 l1 x9_1) x10_2).f0) + ((rd_T61 (rd_L7 l1 x9_1) x10_2).f1))) q024 ql24 q24 hroom24
                                    have hr24 := Kd.C_mid (lo := (((rd_T61 (rd_L7 l1 x9_1) x10_2).f0) : Int).toNat) (hi := ((wrap64 (((rd_T61 (rd_L7 l1 x9_1) x10_2).f0) + ((rd_T61 (rd_L7 l1 x9_1) x10_2).f1))) : Int).toNat) (c := c291_0) hC24 (by omega) (by omega) hroom24
                                    obtain ⟨A24, hA24⟩ : ∃ A1, A1 = (if c291_0 = (((rd_T61 (rd_L7 l1 x9_1) x10_2).f0) : Int).toNat then A291_0 else (A291_0 : Option Addr).map (·.add ((((rd_T61 (rd_L7 l1 x9_1) x10_2).f0) : Int).toNat * 8))) := ⟨_, rfl⟩
                                    obtain ⟨c24, hc24⟩ : ∃ c1, c1 = c291_0 - (((rd_T61 (rd_L7 l1 x9_1) x10_2).f0) : Int).toNat := ⟨_, rfl⟩
                                    have hy24 : y292.length = ((wrap64 (((rd_T61 (rd_L7 l1 x9_1) x10_2).f0) + ((rd_T61 (rd_L7 l1 x9_1) x10_2).f1))) : Int).toNat - (((rd_T61 (rd_L7 l1 x9_1) x10_2).f0) : Int).toNat := (by rw [Ny292.out, List.length_drop, List.length_take] <;> omega)
                                    rw [show ((rd_L2 l0 x9_1).take ((wrap64 (((rd_T61 (rd_L7 l1 x9_1) x10_2).f0) + ((rd_T61 (rd_L7 l1 x9_1) x10_2).f1))) : Int).toNat).drop (((rd_T61 (rd_L7 l1 x9_1) x10_2).f0) : Int).toNat = y292 from Ny292.out.symm] at hr24
                                    replace hr24 : Kd.C k59 _ A24 y292.length y292 := (by rw [hA24]; exact hr24)
                                    rw [← hy24, ← hA24, ← hc24] at hcut24
                                    have HR295 := Aside0.mk hr24
                                    have HC295 := Aside0.mk (show y292.length ≤ c24 from by rw [hy24, hc24]; exact Nat.sub_le_sub_right (Nat.le_trans (by omega) hroom24) _)
                                    clear hr24 hC24 hroom24 hi024 hsz24 hc24
                                    have KY24 := Aside0.mk hy24
                                    have KA24 := Aside0.mk hA24
                                    clear hy24 hA24
                                    replace q24 := eq_true q24
                                    refine start_ (n := 22) (S := fun w' => w'.cell? ⟨gb290, 0, none⟩ = some (.int .i64 ((rd_T61 (rd_L7 l1 x9_1) x10_2).f0)) ∧ w'.cell? ⟨gb290, 1, none⟩ = some (.int .i64 ((rd_T61 (rd_L7 l1 x9_1) x10_2).f1)) ∧ w'.cell? (ad291.add (x9_1).toNat) = some (.slice A291_0 (rd_L2 l0 x9_1).length c291_0)) (ds := []) #[false, false, false, false, false, false, false, false, false, false, false, false, false, false, false, false, false, false, false, false, false, false] (by kernel_rfl) rfl rfl ⟨(blk_cell BK290.out 0).trans rfl, (blk_cell BK290.out 1).trans rfl, ((HB.out.cell (World.block_lt_of_cell? w _ hw291_0)).trans hw291_0)⟩ (fun hHeld => ?_); refine with_tabW standbyref45_Writes.tab16 standbyref45_Writes.bits16 (fun HT_ HW_ => ?_)
                                    generalize w22.drew = w23 at HO_8 BK290 HB HR291_0 HR295 hx291_0 hHeld ⊢
                                    refine zp 0 46 HT_.out ?_
                                    refine zp 1 47 HT_.out ?_
                                    refine zp 2 48 HT_.out ?_
                                    refine zp 4 50 HT_.out ?_
                                    refine zp 5 51 HT_.out ?_
                                    refine zp 6 52 HT_.out ?_
                                    refine zp 7 53 HT_.out ?_
                                    refine zp 9 55 HT_.out ?_
                                    refine zp 11 57 HT_.out ?_
                                    refine zp 13 59 HT_.out ?_
                                    refine take_ (i := 3) (N := some 49) (v := ?_) (a' := ?_) #[true, true, true, true, true, true, true, true, false, true, false, true, false, true, false, false, false, false, false, false, false, false] rfl rfl (take_ofW HT_.out HW_.out (by kernel_rfl)) (fun _ _ _ h => h) (Or.inl ⟨by rfl, ?_⟩) hHeld ?_ ?_
                                    rotate_left
                                    · rintro w' ⟨s0, s1, s2⟩
                                      go_simp
                                      with_reducible rfl
                                    rotate_left
                                    · simp only [Act.put, List.setIfInBounds_toArray, List.set_cons_zero, List.set_cons_succ, i64_w, i32_w]
                                      rfl
                                    refine take_ (i := 8) (N := some 54) (v := ?_) (a' := ?_) #[true, true, true, true, true, true, true, true, true, true, false, true, false, true, false, false, false, false, false, false, false, false] rfl rfl (take_ofW HT_.out HW_.out (by kernel_rfl)) (fun _ _ _ h => h) (Or.inl ⟨by rfl, ?_⟩) hHeld ?_ ?_
                                    rotate_left
                                    · rintro w' ⟨s0, s1, s2⟩
                                      go_simp
                                      with_reducible rfl
                                    rotate_left
                                    · simp only [Act.put, List.setIfInBounds_toArray, List.set_cons_zero, List.set_cons_succ, i64_w, i32_w]
                                      rfl
                                    refine take_ (i := 10) (N := some 56) (v := ?_) (a' := ?_) #[true, true, true, true, true, true, true, true, true, true, true, true, false, true, false, false, false, false, false, false, false, false] rfl rfl (take_ofW HT_.out HW_.out (by kernel_rfl)) (fun _ _ _ h => h) (Or.inl ⟨by rfl, ?_⟩) hHeld ?_ ?_
                                    rotate_left
                                    · rintro w' ⟨s0, s1, s2⟩
                                      go_simp
                                      with_reducible rfl
                                    rotate_left
                                    · simp only [Act.put, List.setIfInBounds_toArray, List.set_cons_zero, List.set_cons_succ, i64_w, i32_w]
                                      rfl
                                    refine take_ (i := 12) (N := some 58) (v := ?_) (a' := ?_) #[true, true, true, true, true, true, true, true, true, true, true, true, true, true, false, false, false, false, false, false, false, false] rfl rfl (take_ofW HT_.out HW_.out (by kernel_rfl)) (fun _ _ _ h => h) (Or.inl ⟨by rfl, ?_⟩) hHeld ?_ ?_
                                    rotate_left
                                    · rintro w' ⟨s0, s1, s2⟩
                                      go_simp
                                      with_reducible rfl
                                    rotate_left
                                    · simp only [Act.put, List.setIfInBounds_toArray, List.set_cons_zero, List.set_cons_succ, i64_w, i32_w]
                                      rfl
                                    refine take_ (i := 14) (N := some 60) (v := ?_) (a' := ?_) #[true, true, true, true, true, true, true, true, true, true, true, true, true, true, true, false, false, false, false, false, false, false] rfl rfl (take_ofW HT_.out HW_.out (by kernel_rfl)) (fun _ _ _ h => h) (Or.inl ⟨by rfl, ?_⟩) hHeld ?_ ?_
                                    rotate_left
                                    · rintro w' ⟨s0, s1, s2⟩
                                      go_simp
                                      with_reducible rfl
                                    rotate_left
                                    · simp only [Act.put, List.setIfInBounds_toArray, List.set_cons_zero, List.set_cons_succ, i64_w, i32_w]
                                      rfl
                                    refine zp 15 61 HT_.out ?_
                                    refine zp 16 62 HT_.out ?_
                                    refine one_ (i := 17) (N := some 63) #[true, true, true, true, true, true, true, true, true, true, true, true, true, true, true, true, true, true, false, false, false, false] rfl rfl (one_of HT_.out (by kernel_rfl)) (by decide) (fun K hK => ?_)
                                    refine Kd.R_append_rows_step k59 (w0 := w) w.heap.size (by rfl) (.tmp 50) (.tmp 62) 56 59 (.agg #[(.int .u8 0), (.int .u8 0), (.int .u8 0), (.int .u8 0), (.int .u8 0), (.int .u8 0), (.int .u8 0), (.int .u8 0)]) 8 rfl Tryz.underlying56 info59 rfl (by decide) (by omega) (.slice none 0 0) ([] : List (S59)) y292 _ _ _ (fun _ => True) (fun _ => False) rfl rfl ?aO ?aR (fun _ _ h => h) (fun _ h => h.elim) ?aF ?aB ?aS ?aL ?_
                                    (case aR => exact zc HR295 HB)
                                    (case aB => exact (zb HB))
                                    (case aF => exact (fun _ _ => trivial))
                                    (case aO => exact ((Kd.R_nil _ _ _ _ (fun _ => True))))
                                    (case aS => exact (below_size (zb HB)))
                                    (case aL => have := LMc18.out; omega)
                                    intro v297 w25 ho hb hg hat
                                    rw [← Ny296.out] at ho
                                    have HO298 := Aside0.mk (ho)
                                    replace HO_8 := Aside0.mk (Kd.S_after (Kd.S_apart_nil (zs HO_8.out)) hg hat)
                                    replace BK290 := Aside0.mk (blk_grown (g := gb290) (o := .cells #[.int .i64 ((rd_T61 (rd_L7 l1 x9_1) x10_2).f0), .int .i64 ((rd_T61 (rd_L7 l1 x9_1) x10_2).f1)] 61 (0, 0)) (zk BK290) hg (by simp [Value.ownBlock]))
                                    replace HB := Aside0.mk (hb)
                                    clear ho hb hg hat
                                    obtain ⟨Ao26, co26, eo26⟩ := Kd.R_slice HO298.out
                                    (first | subst eo26 | (injection eo26 with f1_ f2_ f3_; have f4_ := f1_.symm; have f5_ := f3_.symm; clear f1_ f2_ f3_; subst f4_; subst f5_))
                                    refine hK.out _ _ ⟨(blk_cell BK290.out 0).trans rfl, (blk_cell BK290.out 1).trans rfl, ((HB.out.cell (World.block_lt_of_cell? w _ hw291_0)).trans hw291_0)⟩ (fun hHeld => ?_)
                                    clear hK K
                                    refine norm_ (a' := ?_) ?_ ?_
                                    rotate_left
                                    · show Act.put _ (some 63) _ = _
                                      simp only [Act.put, List.setIfInBounds_toArray, List.set_cons_zero, List.set_cons_succ, i64_w, i32_w]
                                      rfl
                                    refine zp 18 64 HT_.out ?_
                                    refine one_ (i := 19) (N := some 65) #[true, true, true, true, true, true, true, true, true, true, true, true, true, true, true, true, true, true, true, true, false, false] rfl rfl (one_of HT_.out (by kernel_rfl)) (by decide) (fun K hK => ?_)
                                    refine value_ (w1 := ?_) (v := ?_) (by rfl) rfl ?_ ?_
                                    rotate_left 2
                                    · go_simp
                                      constructor
                                      · rfl
                                      · rfl
                                    refine hK.out _ _ ⟨(blk_cell (blk_alloc BK290.out _) 0).trans rfl, (blk_cell (blk_alloc BK290.out _) 1).trans rfl, (World.cell?_alloc_lt _ _ _ (World.block_lt_of_cell? _ _ (((HB.out.cell (World.block_lt_of_cell? w _ hw291_0)).trans hw291_0)))).trans (((HB.out.cell (World.block_lt_of_cell? w _ hw291_0)).trans hw291_0))⟩ (fun hHeld => ?_)
                                    clear hK K
                                    refine norm_ (a' := ?_) ?_ ?_
                                    rotate_left
                                    · show Act.put _ (some 65) _ = _
                                      simp only [Act.put, List.setIfInBounds_toArray, List.set_cons_zero, List.set_cons_succ, i64_w, i32_w]
                                      rfl
                                    refine one_ (i := 20) (N := some 66) #[true, true, true, true, true, true, true, true, true, true, true, true, true, true, true, true, true, true, true, true, true, false] rfl rfl (one_of HT_.out (by kernel_rfl)) (by decide) (fun K hK => ?_)
                                    refine Kd.S_append_step k66 (w0 := w) w.heap.size (by rfl) (.tmp 46) (.tmp 65) 31 66 (.agg #[(.int .i64 0), (.int .i64 0), (.slice none 0 0)]) 40 rfl Tryz.underlying31 info66 rfl (by decide) (by omega) u8 x8_2 (⟨x9_1, (rd_T61 (rd_L7 l1 x9_1) x10_2).f0, y296⟩ : S66) [.int .i64 x9_1, .int .i64 ((rd_T61 (rd_L7 l1 x9_1) x10_2).f0), .slice Ao26 y296.length co26] (fun _ => True) (fun k_ => some k_ = (.slice Ao26 y296.length co26 : Value).ownBlock) rfl rfl ?aP (fun k_ hk_ => ((Kd.R_mono (ok' := fun k_ => ((fun _ => True)) k_ ∧ some k_ ≠ (u8 : Value).ownBlock) (Kd.R_apart' (HO298.out) (Kd.S_typed HO_8.out) (by decide)) (fun k_ hk => ⟨trivial, hk.2⟩))).1 k_ hk_.symm) ?aF ?aO ?aB ?aS ?aL ?_
                                    (case aP => exact k66_mkM _ _ _ (⟨x9_1, (rd_T61 (rd_L7 l1 x9_1) x10_2).f0, y296⟩ : S66) (Kd.R_mono (Kd.R_tight rfl (Kd.R_mono (ok' := fun k_ => ((fun _ => True)) k_ ∧ some k_ ≠ (u8 : Value).ownBlock) (Kd.R_apart' (HO298.out) (Kd.S_typed HO_8.out) (by decide)) (fun k_ hk => ⟨trivial, hk.2⟩))) (fun _ h_ => h_)))
                                    (case aB => exact (zb HB))
                                    (case aF => exact (fun _ _ => trivial))
                                    (case aO => exact (by (with_reducible repeat (first | apply Kd.S_alloc | apply Kd.S_drewN | apply Kd.S_drew)); exact Kd.S_mono HO_8.out (fun k_ hk => ⟨trivial, fun e_ => hk.2 e_⟩)))
                                    (case aS => exact (below_size (zb HB)))
                                    (case aL => have := LMc19.out; omega)
                                    intro v300 w27 ho hb hg hat
                                    rw [← Ny299.out] at ho
                                    have n0_ := Aside0.mk (blk_grown (g := gb290) (o := .cells #[.int .i64 ((rd_T61 (rd_L7 l1 x9_1) x10_2).f0), .int .i64 ((rd_T61 (rd_L7 l1 x9_1) x10_2).f1)] 61 (0, 0)) (zk BK290) hg (Kd.S_ne HO_8.out BK290.out (by decide)))
                                    have n1_ := Aside0.mk (hb)
                                    have n2_ := Aside0.mk (ho)
                                    clear BK290
                                    clear HB
                                    clear HO_8
                                    clear HO298
                                    have BK290 := n0_
                                    have HB := n1_
                                    have HO301 := n2_
                                    clear n0_ n1_ n2_
                                    clear ho hb hg hat
                                    refine hK.out _ _ ⟨(blk_cell BK290.out 0).trans rfl, (blk_cell BK290.out 1).trans rfl, ((HB.out.cell (World.block_lt_of_cell? w _ hw291_0)).trans hw291_0)⟩ (fun hHeld => ?_)
                                    clear hK K
                                    refine norm_ (a' := ?_) ?_ ?_
                                    rotate_left
                                    · show Act.put _ (some 66) _ = _
                                      simp only [Act.put, List.setIfInBounds_toArray, List.set_cons_zero, List.set_cons_succ, i64_w, i32_w]
                                      rfl
                                    refine zp 21 8 HT_.out ?_
                                    refine done_ (done_of HT_.out (by kernel_rfl)) ?_
                                    try go_wp2
                                    go_roundg k2
                                    case measure => have := HK1.out; have := HK2.out; omega
                                    case rel => exact ⟨(y299), (wrap64 (x10_2 + 1)), (by first | rfl | (simp; done) | (simp [*]; done)), H', ⟨by have := HK1.out; have := HK2.out; omega⟩, ⟨by (with_reducible repeat (first | apply Kd.S_alloc | apply Kd.S_drewN | apply Kd.S_drew)); exact HO301.out⟩, ⟨zb HB⟩⟩
                                  · rw [if_neg c19] at H
                                    exact absurd H (by simp)
                                · rw [if_neg c18] at H
                                  exact absurd H (by simp)
                              · rw [if_neg c17] at H
                                exact absurd H (by simp)
                            · rw [if_neg c16] at H
                              exact absurd H (by simp)
                          · rw [if_neg c15] at H
                            exact absurd H (by simp)
                        · rw [if_neg c14] at H
                          exact absurd H (by simp)
                      · rw [if_neg c13] at H
                        exact absurd H (by simp)
                    · rw [if_neg c12] at H
                      have c12b0 : decide (x10_2 < ((rd_L7 l1 x9_1).length : Int)) = false := decide_eq_false c12
                      clear c12
                      have H' := Aside0.mk H
                      clear H
                      have p287 : 0 ≤ (x9_1 : Int) := of_decide_eq_true (by first | (with_reducible assumption) | assumption)
                      have q287 : x9_1 < (l1.length : Int) := of_decide_eq_true (by first | (with_reducible assumption) | assumption)
                      obtain ⟨ad287, A287_0, c287_0, e287, hx287_0, hl287_0, hi287_0⟩ := at_L7 HR1.out x9_1 p287 q287
                      cases e287
                      replace hx287_0 := (HB.out.cell (World.block_lt_of_cell? w _ hx287_0)).trans hx287_0
                      have HR287_0 := Aside0.mk hi287_0
                      have HC287_0 := Aside0.mk hl287_0
                      clear hi287_0 hl287_0
                      replace p287 := eq_true p287
                      replace q287 := eq_true q287
                      go_wp2
                      go_roundg k2
                      case measure => have := HK1.out; have := HK2.out; omega
                      case rel => exact ⟨(x8_2), (wrap64 (x9_1 + 1)), (by first | rfl | (simp; done) | (simp [*]; done)), H', ⟨by have := HK1.out; have := HK2.out; omega⟩, ⟨by (with_reducible repeat (first | apply Kd.S_alloc | apply Kd.S_drewN | apply Kd.S_drew)); exact HO_8.out⟩, ⟨zb HB⟩⟩
                  · rw [if_neg c11] at H
                    exact absurd H (by simp)
                · rw [if_neg c10] at H
                  exact absurd H (by simp)
          · rw [if_neg c9] at H
            have c9b0 : decide (x9_1 < (l1.length : Int)) = false := decide_eq_false c9
            clear c9
            simp only [Option.some.injEq, Prod.mk.injEq] at H
            obtain ⟨rfl, rfl⟩ := H
            go_wp2
            go_ret2
            exact ⟨_, by first | rfl | (simp [errW_none, errW_some] <;> rfl) | (simp [*, errW_none, errW_some] <;> rfl), by (with_reducible repeat (first | apply Kd.S_alloc | apply Kd.S_drewN | apply Kd.S_drew)); exact HO_8.out, zb HB⟩
    · rw [if_neg c6] at H
      have c6b0 : (t286 == 0) = false := beq_eq_false_iff_ne.mpr c6
      have c6b1 : (t286 != 0) = true := bne_iff_ne.mpr c6
      simp only [Option.some.injEq, Prod.mk.injEq] at H
      obtain ⟨rfl, rfl⟩ := H
      go_enter Tryz.func9, Tryz.ntmps9
      go_wp2_with (first | ((with_reducible refine gate_callee (f := 28) rfl ?_); refine zG (some 14) Tryz.func28 #[.slice A0 l0.length c0] ?_; (with_reducible refine (standbyref07_Check.calls k _ _ l0 t285 _ ?side1 ?side2 A3.out).mono ?_); (case side1 => repeat (first | exact HR0.out | (with_reducible refine Kd.C_alloc ?_ _) | (with_reducible refine Kd.C_drewN ?_ _) | (with_reducible refine Kd.C_drew ?_))); (case side2 => exact HC0.out); rintro e w28 ⟨rfl, hb⟩; refine ⟨_, rfl, ?_⟩; replace HB := Aside0.mk (below_step (zb HB) hb); clear hb) | ((with_reducible refine gate_callee (f := 29) rfl ?_); refine zG (some 20) Tryz.func29 #[.slice A0 l0.length c0, .slice A1 l1.length c1] ?_; (with_reducible refine (standbyref45_Fit.calls k _ _ l0 _ _ l1 t286 _ ?side1 ?side2 ?side3 ?side4 A5.out).mono ?_); (case side1 => exact zc HR0 HB); (case side2 => exact HC0.out); (case side3 => exact zc HR1 HB); (case side4 => exact HC1.out); rintro e w29 ⟨rfl, hb⟩; refine ⟨_, rfl, ?_⟩; replace HB := Aside0.mk (below_step (zb HB) hb); clear hb))
      go_ret2
      exact ⟨_, by first | rfl | (simp [errW_none, errW_some] <;> rfl) | (simp [*, errW_none, errW_some] <;> rfl), by first | exact Kd.S_nil _ _ _ _ _ | exact Kd.N_nil _ _ _ _ _ | exact Kd.V_nil _ _ _ _ _ | exact Kd.Q_nil _ _ _ _ _ | exact Kd.R_nil _ _ _ _ _, zb HB⟩
  · rw [if_neg c4] at H
    have c4b0 : (t285 == 0) = false := beq_eq_false_iff_ne.mpr c4
    have c4b1 : (t285 != 0) = true := bne_iff_ne.mpr c4
    simp only [Option.some.injEq, Prod.mk.injEq] at H
    obtain ⟨rfl, rfl⟩ := H
    go_enter Tryz.func9, Tryz.ntmps9
    go_wp2_with (first | ((with_reducible refine gate_callee (f := 28) rfl ?_); refine zG (some 14) Tryz.func28 #[.slice A0 l0.length c0] ?_; (with_reducible refine (standbyref07_Check.calls k _ _ l0 t285 _ ?side1 ?side2 A3.out).mono ?_); (case side1 => repeat (first | exact HR0.out | (with_reducible refine Kd.C_alloc ?_ _) | (with_reducible refine Kd.C_drewN ?_ _) | (with_reducible refine Kd.C_drew ?_))); (case side2 => exact HC0.out); rintro e w30 ⟨rfl, hb⟩; refine ⟨_, rfl, ?_⟩; replace HB := Aside0.mk (below_step (zb HB) hb); clear hb))
    go_ret2
    exact ⟨_, by first | rfl | (simp [errW_none, errW_some] <;> rfl) | (simp [*, errW_none, errW_some] <;> rfl), by first | exact Kd.S_nil _ _ _ _ _ | exact Kd.N_nil _ _ _ _ _ | exact Kd.V_nil _ _ _ _ _ | exact Kd.Q_nil _ _ _ _ _ | exact Kd.R_nil _ _ _ _ _, zb HB⟩
def standbyref23_positions.l0 : Nat → List Int → Int → Option (Int)
  | 0, _, _ => none
  | k + 1, x0, x3 => if x3 < (x0.length : Int) then (if 0 ≤ x3 then (if (rd x0 x3) < 0 then (some 2) else (if (rd x0 x3) > 1073741824 then (some 2) else (standbyref23_positions.l0 k x0 (wrap64 (x3 + 1))))) else (none)) else (some 0)
def standbyref23_positions.f (k : Nat) (l0 : List Int) : Option (Int) := standbyref23_positions.l0 k l0 0
set_option maxHeartbeats 8000000 in
set_option maxRecDepth 100000 in
theorem standbyref23_positions.calls (k : Nat) (A0 : Option Addr) (c0 : Nat) (l0 : List Int) (r : Int) (w : World) (hr0 : Kd.C (Kd.int .i64) w A0 l0.length l0) (hc0 : l0.length ≤ c0) (h : standbyref23_positions.f k l0 = some r) :
    Calls Tryz.prog 65 #[.slice A0 l0.length c0] w fun e w' => e = .returned (.int .i64 r) ∧ Drawn0 w w' := by
  have HR0 := Aside0.mk hr0
  have HC0 := Aside0.mk hc0
  clear hr0 hc0
  have H : (standbyref23_positions.l0 k l0 0) = some r := h
  clear h
  have H' := Aside0.mk H
  clear H
  go_enter Tryz.func65, Tryz.ntmps65
  go_wp2
  go_loopg [3] k (fun kq v3 w' => ∃ (x3_1 : Int), v3 = .int .i64 x3_1 ∧ Aside0 (standbyref23_positions.l0 kq l0 x3_1 = some r) ∧ Aside0 (kq ≤ k) ∧ Drawn0 w w')
  case atStart => exact ⟨(0), (by first | rfl | (simp; done) | (simp [*]; done)), H', ⟨Nat.le_refl _⟩, by repeat (first | exact Drawn0.refl _ | apply Drawn0.step)⟩
  case round =>
    clear H'
    obtain ⟨x3_1, rfl, HA, HK1, ⟨m1, rfl⟩⟩ := hrel
    cases gk with
    | zero => exact absurd HA.out (by simp [standbyref23_positions.l0])
    | succ k1 =>
      have H := HA.out
      clear HA
      simp only [standbyref23_positions.l0] at H
      by_cases c2 : x3_1 < (l0.length : Int)
      · rw [if_pos c2] at H
        have c2b0 : decide (x3_1 < (l0.length : Int)) = true := decide_eq_true c2
        clear c2
        by_cases c3 : 0 ≤ x3_1
        · rw [if_pos c3] at H
          have c3b0 : decide (0 ≤ x3_1) = true := decide_eq_true c3
          clear c3
          by_cases c4 : (rd l0 x3_1) < 0
          · rw [if_pos c4] at H
            have c4b0 : decide ((rd l0 x3_1) < 0) = true := decide_eq_true c4
            clear c4
            obtain rfl := Option.some.inj H
            have p302 : 0 ≤ (x3_1 : Int) := of_decide_eq_true (by first | (with_reducible assumption) | assumption)
            have q302 : x3_1 < (l0.length : Int) := of_decide_eq_true (by first | (with_reducible assumption) | assumption)
            obtain ⟨ad302, e302, hx302_0⟩ := Kd.at_int HR0.out x3_1 p302 q302
            cases e302
            replace p302 := eq_true p302
            replace q302 := eq_true q302
            go_wp2
            go_ret
            exact ⟨by first | rfl | (simp; done) | (simp [*]; done), by repeat (first | exact Drawn0.refl _ | apply Drawn0.step)⟩
          · rw [if_neg c4] at H
            have c4b0 : decide ((rd l0 x3_1) < 0) = false := decide_eq_false c4
            clear c4
            by_cases c5 : (rd l0 x3_1) > 1073741824
            · rw [if_pos c5] at H
              have c5b0 : decide (1073741824 < (rd l0 x3_1)) = true := decide_eq_true c5
              clear c5
              obtain rfl := Option.some.inj H
              have p302 : 0 ≤ (x3_1 : Int) := of_decide_eq_true (by first | (with_reducible assumption) | assumption)
              have q302 : x3_1 < (l0.length : Int) := of_decide_eq_true (by first | (with_reducible assumption) | assumption)
              obtain ⟨ad302, e302, hx302_0⟩ := Kd.at_int HR0.out x3_1 p302 q302
              cases e302
              replace p302 := eq_true p302
              replace q302 := eq_true q302
              have p303 : 0 ≤ (x3_1 : Int) := of_decide_eq_true (by first | (with_reducible assumption) | assumption)
              have q303 : x3_1 < (l0.length : Int) := of_decide_eq_true (by first | (with_reducible assumption) | assumption)
              obtain ⟨ad303, e303, hx303_0⟩ := Kd.at_int HR0.out x3_1 p303 q303
              obtain rfl : ad302 = ad303 := (by injection e303)
              replace p303 := eq_true p303
              replace q303 := eq_true q303
              go_wp2
              go_ret
              exact ⟨by first | rfl | (simp; done) | (simp [*]; done), by repeat (first | exact Drawn0.refl _ | apply Drawn0.step)⟩
            · rw [if_neg c5] at H
              have c5b0 : decide (1073741824 < (rd l0 x3_1)) = false := decide_eq_false c5
              clear c5
              have H' := Aside0.mk H
              clear H
              have p302 : 0 ≤ (x3_1 : Int) := of_decide_eq_true (by first | (with_reducible assumption) | assumption)
              have q302 : x3_1 < (l0.length : Int) := of_decide_eq_true (by first | (with_reducible assumption) | assumption)
              obtain ⟨ad302, e302, hx302_0⟩ := Kd.at_int HR0.out x3_1 p302 q302
              cases e302
              replace p302 := eq_true p302
              replace q302 := eq_true q302
              have p303 : 0 ≤ (x3_1 : Int) := of_decide_eq_true (by first | (with_reducible assumption) | assumption)
              have q303 : x3_1 < (l0.length : Int) := of_decide_eq_true (by first | (with_reducible assumption) | assumption)
              obtain ⟨ad303, e303, hx303_0⟩ := Kd.at_int HR0.out x3_1 p303 q303
              obtain rfl : ad302 = ad303 := (by injection e303)
              replace p303 := eq_true p303
              replace q303 := eq_true q303
              go_wp2
              go_roundg k1
              case measure => have := HK1.out; omega
              case rel => exact ⟨(wrap64 (x3_1 + 1)), (by first | rfl | (simp; done) | (simp [*]; done)), H', ⟨by have := HK1.out; omega⟩, by repeat (first | exact Drawn0.refl _ | apply Drawn0.step)⟩
        · rw [if_neg c3] at H
          exact absurd H (by simp)
      · rw [if_neg c2] at H
        have c2b0 : decide (x3_1 < (l0.length : Int)) = false := decide_eq_false c2
        clear c2
        obtain rfl := Option.some.inj H
        go_wp2
        go_ret
        exact ⟨by first | rfl | (simp; done) | (simp [*]; done), by repeat (first | exact Drawn0.refl _ | apply Drawn0.step)⟩
end Go.Proofs.YtdplnbmioioniaaGreat.Pq
end
