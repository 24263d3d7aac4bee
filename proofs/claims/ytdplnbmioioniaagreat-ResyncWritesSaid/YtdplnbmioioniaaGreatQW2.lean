import Derived.Test.YtdplnbmioioniaaGreatQW1
import Derived.ArgAppend
import Derived.Below
import Derived.BigQuiet
import Derived.ChangeSame
import Derived.Deep.AppendLies
import Derived.Deep.CutBlock
import Derived.Deep.DeepCutAuto
import Derived.Deep.Draws
import Derived.Deep.LoopGhost
import Derived.Deep.OwnRows
import Derived.Deep.QuietTactic
import Derived.Deep.RegionHeld3
import Derived.Deep.Slices
import Derived.KernelRfl
import Derived.Laws.BitsLemmas
import Derived.Laws.BytesArg
import Derived.Laws.IdiomCopy
import Derived.Laws.MakeOwn
import Derived.Laws.OwnMore
import Derived.Laws.Rows
import Derived.Laws.Slices
import Derived.Lib.AppendStr
import Derived.Lib.ConvBytes
import Derived.LoopIn
import Derived.LoopNIn
import Derived.Maps.AppendAt
import Derived.Maps.OwnIn
import Derived.OpenShut
import Derived.OrdersHeld
import Derived.OwnWalk
import Derived.OwnWalkIn
import Derived.RangeFuncBound
import Derived.RangeFuncCalls
import Derived.RangeFuncLeaves
import Derived.RangeFuncNested
import Derived.RowKit
import Derived.RowKit3
import Derived.Shelf.Abstract
import Derived.Shelf.SlLaysF0
import Derived.Shelf.SlSortCmp.NoneTotal
import Derived.Sort.CutIn
import Derived.Sort.QuietIn
import Derived.Stop.RegionWithIn
import Derived.Tactics
import Derived.TacticsInMore
import Derived.Test.YtdplnbmioioniaaGreatProg
import Derived.WalkKit
import Derived.WideLaws
section
namespace Go.Proofs.YtdplnbmioioniaaGreat.Pq
open Go.RowKit Go.Proofs.YtdplnbmioioniaaGreatW.PrintWords Go.Proofs.YtdplnbmioioniaaGreatW.PrintLast Go.Proofs.YtdplnbmioioniaaGreatW.PrintMore
set_option linter.unusedVariables false
set_option linter.unusedSimpArgs false
def Ret (v : Value) (w : World) (e : Ending) (w' : World) : Prop := e = .returned v ∧ Below w.heap.size w w'
def RetR {α : Type} (d : Kd α) (t : TypeId) (xs : List α) (w : World) (e : Ending) (w' : World) : Prop :=
  ∃ v, e = .returned v ∧ Kd.R d t w' w.heap.size (fun _ => True) v xs ∧ Below w.heap.size w w'
theorem xC_at {α : Type} {d : Kd α} {w : World} {A : Option Addr} {n : Nat} {xs : List α} (z : α) (h : Kd.C d w A n xs) (i : Nat) (hi : i < n) :
    ∃ ad c, A = some ad ∧ c.length = d.sz ∧ d.K w (xs.getD i z) c ∧ ∀ j u, c[j]? = some u → w.cell? (ad.add (i * d.sz + j)) = some u := by
  obtain ⟨ad, c, h1, h2, h3, h4⟩ := Kd.C_get h z (i : Int) (by omega) (by omega)
  exact ⟨ad, c, h1, h2, by simpa using h3, by simpa using h4⟩
theorem C_at_int {k : IntKind} {w : World} {A : Option Addr} {n : Nat} {xs : List Int} (h : Kd.C (Kd.int k) w A n xs) (i : Nat) (hi : i < n) :
    ∃ ad, A = some ad ∧ w.cell? (ad.add i) = some (.int k (xs.getD i 0)) := by
  obtain ⟨ad, c, h1, h2, h3, h4⟩ := xC_at 0 h i hi
  have h3' : c = [.int k (xs.getD i 0)] := h3
  subst h3'
  exact ⟨ad, h1, by simpa [Kd.int, Kd.scalar] using h4 0 _ rfl⟩
theorem C_at_row {α : Type} {d : Kd α} {e : Nat} {w : World} {A : Option Addr} {n : Nat} {xs : List (List α)} (h : Kd.C (Kd.slice e d) w A n xs) (i : Nat) (hi : i < n) :
    ∃ ad A' c', A = some ad ∧ w.cell? (ad.add i) = some (.slice A' (xs.getD i []).length c') ∧ (xs.getD i []).length ≤ c' ∧ Kd.C d w A' (xs.getD i []).length (xs.getD i []) := by
  obtain ⟨ad, c, h1, h2, h3, h4⟩ := xC_at [] h i hi
  obtain ⟨A', c', rfl, hl, hc⟩ := h3
  exact ⟨ad, A', c', h1, by simpa [Kd.slice] using h4 0 _ rfl, hl, hc⟩
theorem xcell_at {w : World} {ad : Addr} {i sz j : Nat} {v : Value} (h : w.cell? (ad.add (i * sz + j)) = some v) (hj : 0 < j) : w.cell? ⟨(ad.add (i * sz)).block, (ad.add (i * sz)).off + j, none⟩ = some v := by
  rw [← add_field _ _ j hj]; exact h
theorem C_step {α : Type} {d : Kd α} {w W : World} {A : Option Addr} {n : Nat} {xs : List α} (h : Kd.C d w A n xs) (hb : Below w.heap.size w W) : Kd.C d W A n xs := Kd.C_below h hb
theorem xR_step {α : Type} {d : Kd α} {e base : Nat} {ok : Nat → Prop} {w W : World} {v : Value} {xs : List α} (h : Kd.R d e w base ok v xs) (hb : Below w.heap.size w W) : Kd.R d e W base ok v xs := Kd.R_below h hb
theorem R_up {α : Type} {d : Kd α} {e base base' : Nat} {w : World} {v : Value} {xs : List α} (h : Kd.R d e w base' (fun _ => True) v xs) (hb : base ≤ base') : Kd.R d e w base (fun _ => True) v xs := Kd.R_lower h hb
section
variable {P : Program} {ops : Array Oper} {rest : List Oper} {o : Oper} {a : Act} {Q : Exit → Act → World → Prop}
theorem R_push {α : Type} (d : Kd α) {w W : World} (t e : TypeId) (z : Value) (bytes : Nat) {s x : Operand} (hgd : o.guard = none)
    (ho : o.op = .call { callee := .builtin .append, args := #[s, x], argTypes := #[t, t] })
    (ht : P.underlying t = some (.slice e)) (hinfo : (P.info? e).map (fun i => (i.zero, i.size, i.bytes)) = some (some z, d.sz, bytes)) (hz : z.cells.size = d.sz) (hs0 : 0 < d.sz) (hb0 : 0 < bytes)
    (v : Value) (xs : List α) (p : α) (cs : List Value) (hs : a.eval s = v) (hx : a.eval x = .slice (some ⟨W.heap.size, 0, none⟩) 1 1) (hp : d.M W w.heap.size (fun k => some k ≠ v.ownBlock) p cs)
    (HO : Kd.R d e W w.heap.size (fun _ => True) v xs) (HB : Below w.heap.size w W) (hl : (xs.length + 1) * bytes ≤ 140737488355328)
    (h : ∀ v1 w1, Kd.R d e w1 w.heap.size (fun _ => True) v1 (xs ++ [p]) → Below w.heap.size w w1 → W.grownBy w1 v.ownBlock → (v1.ownBlock = v.ownBlock ∨ ∃ b, v1.ownBlock = some b ∧ W.heap.size ≤ b) → wpList P ops Q rest (a.put o.dst v1) w1) :
    wpList P ops Q (o :: rest) a (W.alloc (.cells cs.toArray e)) :=
  Kd.R_append d (w0 := w) w.heap.size hgd s x t e z bytes ho ht hinfo hz hs0 hb0 v xs p cs (fun _ => True) _ hs hx hp (fun _ hk => ⟨trivial, hk⟩) (fun _ _ => trivial) HO HB HB.size hl h
end
theorem make_cap {P : Program} (t e : TypeId) (z : Value) (bytes sz : Nat) (ht : P.underlying t = some (.slice e)) (hinfo : (P.info? e).map (fun i => (i.zero, i.size, i.bytes)) = some (some z, sz, bytes)) (hb0 : 0 < bytes)
    (n : Nat) (hn : n * bytes ≤ 281474976710656) :
    ∀ W : World, (Instr.makeSlice t (.int .i64 0) (.int .i64 (n : Int))).run P W = .ok (.slice (some ⟨W.heap.size, 0, none⟩) 0 n) (W.alloc (.cells (madeCells z.cells (n * sz)) e)) := by
  intro W
  obtain ⟨i0, hi, hzz⟩ := Option.map_eq_some_iff.1 hinfo
  simp only [Prod.mk.injEq] at hzz
  obtain ⟨hz0, hz1, hz2⟩ := hzz
  have hm : n ≤ 281474976710656 := Nat.le_trans (Nat.le_mul_of_pos_right _ hb0) hn
  have hb : (i0.bytes : Int) * (n : Int) ≤ 281474976710656 := by
    rw [hz2]
    have : ((bytes * n : Nat) : Int) ≤ 281474976710656 := by rw [Nat.mul_comm]; omega
    rwa [Int.natCast_mul] at this
  have hr := run_make (P := P) W t e i0 z ht hi hz0 .i64 .i64 0 (n : Int) (Int.le_refl _) (by omega) hb (by omega)
  simpa [hz1] using hr
theorem R_made {α : Type} (d : Kd α) (w W : World) (e : TypeId) (cur : Array Value) (n : Nat) (hb : w.heap.size ≤ W.heap.size) (hn : n ≤ maxLen) (hs : cur.size = n * d.sz) :
    Kd.R d e (W.alloc (.cells cur e)) w.heap.size (fun _ => True) (.slice (some ⟨W.heap.size, 0, none⟩) 0 n) [] :=
  ⟨fun _ _ => trivial, [], World.ownsRow_made W cur n hb hn hs, Reps.none _ _⟩
def idxFrom {α : Type} (p : α → Bool) : Nat → List α → Int
  | _, [] => -1
  | i, x :: r => if p x then (i : Int) else idxFrom p (i + 1) r
theorem idxFrom_drop {α : Type} (p : α → Bool) (xs : List α) (z : α) (i : Nat) (hi : i < xs.length) : idxFrom p i (xs.drop i) = if p (xs.getD i z) then (i : Int) else idxFrom p (i + 1) (xs.drop (i + 1)) := by
  rw [List.drop_eq_getElem_cons hi]
  simp [idxFrom, List.getD_eq_getElem?_getD, List.getElem?_eq_getElem hi]
theorem idxFrom_ge {α : Type} (p : α → Bool) (xs : List α) : ∀ i, (decide (idxFrom p i xs ≥ 0)) = xs.any p := by
  induction xs with
  | nil => intro i; simp [idxFrom]
  | cons x r ih =>
    intro i
    unfold idxFrom
    cases h : p x with
    | true => simp [h]
    | false => simpa [h] using ih (i + 1)
theorem take_snoc {α : Type} (xs : List α) (z : α) (i : Nat) (hi : i < xs.length) : xs.take (i + 1) = xs.take i ++ [xs.getD i z] := by
  rw [List.take_succ_eq_append_getElem hi]; simp [List.getD_eq_getElem?_getD, List.getElem?_eq_getElem hi]
theorem map_take_snoc {α β : Type} (f : α → β) (xs : List α) (z : α) (i : Nat) (hi : i < xs.length) : (xs.take (i + 1)).map f = (xs.take i).map f ++ [f (xs.getD i z)] := by
  rw [take_snoc xs z i hi, List.map_append]; rfl
end Go.Proofs.YtdplnbmioioniaaGreat.Pq
end
section
namespace Go.Proofs.YtdplnbmioioniaaGreat.Pq
open Go.RowKit Go.Proofs.YtdplnbmioioniaaGreatW.PrintWords Go.Proofs.YtdplnbmioioniaaGreatW.PrintLast Go.Proofs.YtdplnbmioioniaaGreatW.PrintMore
attribute [local go_sem] max2_int min2_int max_two min_two max_three min_three max_four min_four
set_option linter.unusedVariables false
set_option linter.unusedSimpArgs false
def errW : Option Int → Value
  | none => .nilIface
  | some c => .iface 0 (.int .i64 c)
theorem errW_none : errW none = .nilIface := rfl
theorem errW_some (c : Int) : errW (some c) = .iface 0 (.int .i64 c) := rfl
theorem info3 : (Tryz.prog.info? 3).map (fun i => (i.zero, i.size, i.bytes)) = some (some (.int .i64 0), 1, 8) := by kernel_rfl
theorem info57 : (Tryz.prog.info? 57).map (fun i => (i.zero, i.size, i.bytes)) = some (some (.slice none 0 0), 1, 24) := by kernel_rfl
theorem info59 : (Tryz.prog.info? 59).map (fun i => (i.zero, i.size, i.bytes)) = some (some (.agg #[(.int .u8 0), (.int .u8 0), (.int .u8 0), (.int .u8 0), (.int .u8 0), (.int .u8 0), (.int .u8 0), (.int .u8 0)]), 8, 8) := by kernel_rfl
theorem info66 : (Tryz.prog.info? 66).map (fun i => (i.zero, i.size, i.bytes)) = some (some (.agg #[(.int .i64 0), (.int .i64 0), (.slice none 0 0)]), 3, 40) := by kernel_rfl
structure S59 where
  f0 : Int
  f1 : Int
  f2 : Int
  f3 : Int
  f4 : Int
  f5 : Int
  f6 : Int
  f7 : Int
def z59 : S59 := ⟨(0 : Int), (0 : Int), (0 : Int), (0 : Int), (0 : Int), (0 : Int), (0 : Int), (0 : Int)⟩
def k59 : Kd S59 := Kd.iso (Kd.pair (Kd.int .u8) (Kd.pair (Kd.int .u8) (Kd.pair (Kd.int .u8) (Kd.pair (Kd.int .u8) (Kd.pair (Kd.int .u8) (Kd.pair (Kd.int .u8) (Kd.pair (Kd.int .u8) (Kd.int .u8)))))))) (fun x : S59 => (x.f0, x.f1, x.f2, x.f3, x.f4, x.f5, x.f6, x.f7))
theorem k59_heap : Kd.Heap k59 := Kd.heap_iso _ (Kd.heap_pair (Kd.heap_int .u8) (Kd.heap_pair (Kd.heap_int .u8) (Kd.heap_pair (Kd.heap_int .u8) (Kd.heap_pair (Kd.heap_int .u8) (Kd.heap_pair (Kd.heap_int .u8) (Kd.heap_pair (Kd.heap_int .u8) (Kd.heap_pair (Kd.heap_int .u8) (Kd.heap_int .u8))))))))
theorem k59_open {w : World} {x : S59} {cs : List Value} (h : k59.K w x cs) : cs = [.int .u8 x.f0, .int .u8 x.f1, .int .u8 x.f2, .int .u8 x.f3, .int .u8 x.f4, .int .u8 x.f5, .int .u8 x.f6, .int .u8 x.f7] := by
  obtain ⟨_, _, rfl, rfl, ⟨_, _, rfl, rfl, ⟨_, _, rfl, rfl, ⟨_, _, rfl, rfl, ⟨_, _, rfl, rfl, ⟨_, _, rfl, rfl, ⟨_, _, rfl, rfl, rfl⟩⟩⟩⟩⟩⟩⟩ := h
  exact rfl
theorem k59_mk (w : World) (x : S59)  : k59.K w x [.int .u8 x.f0, .int .u8 x.f1, .int .u8 x.f2, .int .u8 x.f3, .int .u8 x.f4, .int .u8 x.f5, .int .u8 x.f6, .int .u8 x.f7] := ⟨[.int .u8 x.f0], [.int .u8 x.f1, .int .u8 x.f2, .int .u8 x.f3, .int .u8 x.f4, .int .u8 x.f5, .int .u8 x.f6, .int .u8 x.f7], rfl, rfl, ⟨[.int .u8 x.f1], [.int .u8 x.f2, .int .u8 x.f3, .int .u8 x.f4, .int .u8 x.f5, .int .u8 x.f6, .int .u8 x.f7], rfl, rfl, ⟨[.int .u8 x.f2], [.int .u8 x.f3, .int .u8 x.f4, .int .u8 x.f5, .int .u8 x.f6, .int .u8 x.f7], rfl, rfl, ⟨[.int .u8 x.f3], [.int .u8 x.f4, .int .u8 x.f5, .int .u8 x.f6, .int .u8 x.f7], rfl, rfl, ⟨[.int .u8 x.f4], [.int .u8 x.f5, .int .u8 x.f6, .int .u8 x.f7], rfl, rfl, ⟨[.int .u8 x.f5], [.int .u8 x.f6, .int .u8 x.f7], rfl, rfl, ⟨[.int .u8 x.f6], [.int .u8 x.f7], rfl, rfl, rfl⟩⟩⟩⟩⟩⟩⟩
theorem k59_mkM (w : World) (base : Nat) (ok : Nat → Prop) (x : S59)  : k59.M w base ok x [.int .u8 x.f0, .int .u8 x.f1, .int .u8 x.f2, .int .u8 x.f3, .int .u8 x.f4, .int .u8 x.f5, .int .u8 x.f6, .int .u8 x.f7] := ⟨[.int .u8 x.f0], [.int .u8 x.f1, .int .u8 x.f2, .int .u8 x.f3, .int .u8 x.f4, .int .u8 x.f5, .int .u8 x.f6, .int .u8 x.f7], rfl, rfl, ⟨[.int .u8 x.f1], [.int .u8 x.f2, .int .u8 x.f3, .int .u8 x.f4, .int .u8 x.f5, .int .u8 x.f6, .int .u8 x.f7], rfl, rfl, ⟨[.int .u8 x.f2], [.int .u8 x.f3, .int .u8 x.f4, .int .u8 x.f5, .int .u8 x.f6, .int .u8 x.f7], rfl, rfl, ⟨[.int .u8 x.f3], [.int .u8 x.f4, .int .u8 x.f5, .int .u8 x.f6, .int .u8 x.f7], rfl, rfl, ⟨[.int .u8 x.f4], [.int .u8 x.f5, .int .u8 x.f6, .int .u8 x.f7], rfl, rfl, ⟨[.int .u8 x.f5], [.int .u8 x.f6, .int .u8 x.f7], rfl, rfl, ⟨[.int .u8 x.f6], [.int .u8 x.f7], rfl, rfl, rfl⟩⟩⟩⟩⟩⟩⟩
def rd_T59 (xs : List S59) (i : Int) : S59 := xs.getD i.toNat z59
theorem at_T59 {w : World} {A : Option Addr} {n : Nat} {xs : List S59} (h : Kd.C k59 w A n xs) (i : Int) (h0 : 0 ≤ i) (h1 : i < n) : ∃ ad , A = some ad ∧ w.cell? (ad.add (i.toNat * 8)) = some (.int .u8 (rd_T59 xs i).f0) ∧ w.cell? ⟨(ad.add (i.toNat * 8)).block, (ad.add (i.toNat * 8)).off + 1, none⟩ = some (.int .u8 (rd_T59 xs i).f1) ∧ w.cell? ⟨(ad.add (i.toNat * 8)).block, (ad.add (i.toNat * 8)).off + 2, none⟩ = some (.int .u8 (rd_T59 xs i).f2) ∧ w.cell? ⟨(ad.add (i.toNat * 8)).block, (ad.add (i.toNat * 8)).off + 3, none⟩ = some (.int .u8 (rd_T59 xs i).f3) ∧ w.cell? ⟨(ad.add (i.toNat * 8)).block, (ad.add (i.toNat * 8)).off + 4, none⟩ = some (.int .u8 (rd_T59 xs i).f4) ∧ w.cell? ⟨(ad.add (i.toNat * 8)).block, (ad.add (i.toNat * 8)).off + 5, none⟩ = some (.int .u8 (rd_T59 xs i).f5) ∧ w.cell? ⟨(ad.add (i.toNat * 8)).block, (ad.add (i.toNat * 8)).off + 6, none⟩ = some (.int .u8 (rd_T59 xs i).f6) ∧ w.cell? ⟨(ad.add (i.toNat * 8)).block, (ad.add (i.toNat * 8)).off + 7, none⟩ = some (.int .u8 (rd_T59 xs i).f7) := by
  obtain ⟨ad, c, e, _, hK, hc0⟩ := Kd.C_get h z59 i h0 h1
  have hc : ∀ j u, c[j]? = some u → w.cell? (ad.add (i.toNat * 8 + j)) = some u := hc0
  obtain rfl := k59_open hK
  exact ⟨ad, e, hc 0 _ rfl, by rw [← add_field _ _ 1 (by omega)]; exact hc 1 _ rfl, by rw [← add_field _ _ 2 (by omega)]; exact hc 2 _ rfl, by rw [← add_field _ _ 3 (by omega)]; exact hc 3 _ rfl, by rw [← add_field _ _ 4 (by omega)]; exact hc 4 _ rfl, by rw [← add_field _ _ 5 (by omega)]; exact hc 5 _ rfl, by rw [← add_field _ _ 6 (by omega)]; exact hc 6 _ rfl, by rw [← add_field _ _ 7 (by omega)]; exact hc 7 _ rfl⟩
def rd_L2 (xs : List (List S59)) (i : Int) : (List S59) := xs.getD i.toNat ([] : List S59)
theorem at_L2 {w : World} {A : Option Addr} {n : Nat} {xs : List (List S59)} (h : Kd.C (Kd.slice 59 k59) w A n xs) (i : Int) (h0 : 0 ≤ i) (h1 : i < n) : ∃ ad A0 c0, A = some ad ∧ w.cell? (ad.add i.toNat) = some (.slice A0 (rd_L2 xs i).length c0) ∧ (rd_L2 xs i).length ≤ c0 ∧ k59.C w A0 (rd_L2 xs i).length (rd_L2 xs i) := by
  obtain ⟨ad, c, e, _, hK, hc0⟩ := Kd.C_get h ([] : List S59) i h0 h1
  have hc : ∀ j u, c[j]? = some u → w.cell? (ad.add (i.toNat * 1 + j)) = some u := hc0
  obtain ⟨A0, c0, rfl, l0, g0⟩ := hK
  exact ⟨ad, A0, c0, e, by have hq := hc 0 _ rfl; rwa [Nat.mul_one, Nat.add_zero] at hq, l0, g0⟩
def rd_L3 (xs : List (List (List S59))) (i : Int) : (List (List S59)) := xs.getD i.toNat ([] : List (List S59))
theorem at_L3 {w : World} {A : Option Addr} {n : Nat} {xs : List (List (List S59))} (h : Kd.C (Kd.slice 56 (Kd.slice 59 k59)) w A n xs) (i : Int) (h0 : 0 ≤ i) (h1 : i < n) : ∃ ad A0 c0, A = some ad ∧ w.cell? (ad.add i.toNat) = some (.slice A0 (rd_L3 xs i).length c0) ∧ (rd_L3 xs i).length ≤ c0 ∧ (Kd.slice 59 k59).C w A0 (rd_L3 xs i).length (rd_L3 xs i) := by
  obtain ⟨ad, c, e, _, hK, hc0⟩ := Kd.C_get h ([] : List (List S59)) i h0 h1
  have hc : ∀ j u, c[j]? = some u → w.cell? (ad.add (i.toNat * 1 + j)) = some u := hc0
  obtain ⟨A0, c0, rfl, l0, g0⟩ := hK
  exact ⟨ad, A0, c0, e, by have hq := hc 0 _ rfl; rwa [Nat.mul_one, Nat.add_zero] at hq, l0, g0⟩
structure S61 where
  f0 : Int
  f1 : Int
def z61 : S61 := ⟨(0 : Int), (0 : Int)⟩
def k61 : Kd S61 := Kd.iso (Kd.pair (Kd.int .i64) (Kd.int .i64)) (fun x : S61 => (x.f0, x.f1))
theorem k61_open {w : World} {x : S61} {cs : List Value} (h : k61.K w x cs) : cs = [.int .i64 x.f0, .int .i64 x.f1] := by
  obtain ⟨_, _, rfl, rfl, rfl⟩ := h
  exact rfl
theorem k61_mk (w : World) (x : S61)  : k61.K w x [.int .i64 x.f0, .int .i64 x.f1] := ⟨[.int .i64 x.f0], [.int .i64 x.f1], rfl, rfl, rfl⟩
theorem k61_mkM (w : World) (base : Nat) (ok : Nat → Prop) (x : S61)  : k61.M w base ok x [.int .i64 x.f0, .int .i64 x.f1] := ⟨[.int .i64 x.f0], [.int .i64 x.f1], rfl, rfl, rfl⟩
def rd_T61 (xs : List S61) (i : Int) : S61 := xs.getD i.toNat z61
theorem at_T61 {w : World} {A : Option Addr} {n : Nat} {xs : List S61} (h : Kd.C k61 w A n xs) (i : Int) (h0 : 0 ≤ i) (h1 : i < n) : ∃ ad , A = some ad ∧ w.cell? (ad.add (i.toNat * 2)) = some (.int .i64 (rd_T61 xs i).f0) ∧ w.cell? ⟨(ad.add (i.toNat * 2)).block, (ad.add (i.toNat * 2)).off + 1, none⟩ = some (.int .i64 (rd_T61 xs i).f1) := by
  obtain ⟨ad, c, e, _, hK, hc0⟩ := Kd.C_get h z61 i h0 h1
  have hc : ∀ j u, c[j]? = some u → w.cell? (ad.add (i.toNat * 2 + j)) = some u := hc0
  obtain rfl := k61_open hK
  exact ⟨ad, e, hc 0 _ rfl, by rw [← add_field _ _ 1 (by omega)]; exact hc 1 _ rfl⟩
def rd_L7 (xs : List (List S61)) (i : Int) : (List S61) := xs.getD i.toNat ([] : List S61)
theorem at_L7 {w : World} {A : Option Addr} {n : Nat} {xs : List (List S61)} (h : Kd.C (Kd.slice 61 k61) w A n xs) (i : Int) (h0 : 0 ≤ i) (h1 : i < n) : ∃ ad A0 c0, A = some ad ∧ w.cell? (ad.add i.toNat) = some (.slice A0 (rd_L7 xs i).length c0) ∧ (rd_L7 xs i).length ≤ c0 ∧ k61.C w A0 (rd_L7 xs i).length (rd_L7 xs i) := by
  obtain ⟨ad, c, e, _, hK, hc0⟩ := Kd.C_get h ([] : List S61) i h0 h1
  have hc : ∀ j u, c[j]? = some u → w.cell? (ad.add (i.toNat * 1 + j)) = some u := hc0
  obtain ⟨A0, c0, rfl, l0, g0⟩ := hK
  exact ⟨ad, A0, c0, e, by have hq := hc 0 _ rfl; rwa [Nat.mul_one, Nat.add_zero] at hq, l0, g0⟩
structure S66 where
  f0 : Int
  f1 : Int
  f2 : (List S59)
def z66 : S66 := ⟨(0 : Int), (0 : Int), ([] : List S59)⟩
def k66 : Kd S66 := Kd.iso (Kd.pair (Kd.int .i64) (Kd.pair (Kd.int .i64) (Kd.slice 59 k59))) (fun x : S66 => (x.f0, x.f1, x.f2))
theorem k66_open {w : World} {x : S66} {cs : List Value} (h : k66.K w x cs) : ∃ A2 c2, cs = [.int .i64 x.f0, .int .i64 x.f1, .slice A2 x.f2.length c2] ∧ x.f2.length ≤ c2 ∧ k59.C w A2 x.f2.length x.f2 := by
  obtain ⟨_, _, rfl, rfl, ⟨_, _, rfl, rfl, ⟨A2, c2, rfl, l2, g2⟩⟩⟩ := h
  exact ⟨A2, c2, rfl, l2, g2⟩
theorem k66_mk (w : World) (x : S66) {A2 : Option Addr} {c2 : Nat} (l2 : x.f2.length ≤ c2) (g2 : k59.C w A2 x.f2.length x.f2) : k66.K w x [.int .i64 x.f0, .int .i64 x.f1, .slice A2 x.f2.length c2] := ⟨[.int .i64 x.f0], [.int .i64 x.f1, .slice A2 x.f2.length c2], rfl, rfl, ⟨[.int .i64 x.f1], [.slice A2 x.f2.length c2], rfl, rfl, ⟨A2, c2, rfl, l2, g2⟩⟩⟩
theorem k66_mkM (w : World) (base : Nat) (ok : Nat → Prop) (x : S66) {v2 : Value} (g2 : k59.R 59 w base ok v2 x.f2) : k66.M w base ok x [.int .i64 x.f0, .int .i64 x.f1, v2] := ⟨[.int .i64 x.f0], [.int .i64 x.f1, v2], rfl, rfl, ⟨[.int .i64 x.f1], [v2], rfl, rfl, ⟨v2, rfl, g2⟩⟩⟩
theorem k66_mkF (W : World) (ok : Nat → Prop) (x : S66) {A2 : Option Addr} {c2 : Nat} (l2 : x.f2.length ≤ c2) (g2 : Kd.F k59 W ok A2 x.f2.length x.f2) : Kd.FK k66 W ok x [.int .i64 x.f0, .int .i64 x.f1, .slice A2 x.f2.length c2] := fun W2 hW => k66_mk W2 x l2 (g2 W2 hW)
def rd_T66 (xs : List S66) (i : Int) : S66 := xs.getD i.toNat z66
theorem at_T66 {w : World} {A : Option Addr} {n : Nat} {xs : List S66} (h : Kd.C k66 w A n xs) (i : Int) (h0 : 0 ≤ i) (h1 : i < n) : ∃ ad A2 c2, A = some ad ∧ w.cell? (ad.add (i.toNat * 3)) = some (.int .i64 (rd_T66 xs i).f0) ∧ w.cell? ⟨(ad.add (i.toNat * 3)).block, (ad.add (i.toNat * 3)).off + 1, none⟩ = some (.int .i64 (rd_T66 xs i).f1) ∧ w.cell? ⟨(ad.add (i.toNat * 3)).block, (ad.add (i.toNat * 3)).off + 2, none⟩ = some (.slice A2 (rd_T66 xs i).f2.length c2) ∧ (rd_T66 xs i).f2.length ≤ c2 ∧ k59.C w A2 (rd_T66 xs i).f2.length (rd_T66 xs i).f2 := by
  obtain ⟨ad, c, e, _, hK, hc0⟩ := Kd.C_get h z66 i h0 h1
  have hc : ∀ j u, c[j]? = some u → w.cell? (ad.add (i.toNat * 3 + j)) = some u := hc0
  obtain ⟨A2, c2, rfl, l2, g2⟩ := k66_open hK
  exact ⟨ad, A2, c2, e, hc 0 _ rfl, by rw [← add_field _ _ 1 (by omega)]; exact hc 1 _ rfl, by rw [← add_field _ _ 2 (by omega)]; exact hc 2 _ rfl, l2, g2⟩
structure S38 where
  f0 : Int
  f1 : Int
  f2 : Int
  f3 : (List Int)
  f4 : (List S66)
end Go.Proofs.YtdplnbmioioniaaGreat.Pq
end
section
namespace Go.Proofs.YtdplnbmioioniaaGreat.Pq
open Go.RowKit Go.Proofs.YtdplnbmioioniaaGreatW.PrintWords Go.Proofs.YtdplnbmioioniaaGreatW.PrintLast Go.Proofs.YtdplnbmioioniaaGreatW.PrintMore
set_option linter.unusedVariables false
set_option linter.unusedSimpArgs false
abbrev SS := S59
abbrev kSS : Kd SS := k59
def eqS (x y : SS) : Bool := x.f0 == y.f0 && (x.f1 == y.f1 && (x.f2 == y.f2 && (x.f3 == y.f3 && (x.f4 == y.f4 && (x.f5 == y.f5 && (x.f6 == y.f6 && (x.f7 == y.f7)))))))
theorem eqSec (d : Nat) (w : World) (x0 y0 : Int) (x1 y1 : Int) (x2 y2 : Int) (x3 y3 : Int) (x4 y4 : Int) (x5 y5 : Int) (x6 y6 : Int) (x7 y7 : Int) :
    (Op.equalIn (d + 2) 59 (.agg #[.int .u8 x0, .int .u8 x1, .int .u8 x2, .int .u8 x3, .int .u8 x4, .int .u8 x5, .int .u8 x6, .int .u8 x7]) (.agg #[.int .u8 y0, .int .u8 y1, .int .u8 y2, .int .u8 y3, .int .u8 y4, .int .u8 y5, .int .u8 y6, .int .u8 y7])).run Tryz.prog w = .ok (eqS ⟨x0, x1, x2, x3, x4, x5, x6, x7⟩ ⟨y0, y1, y2, y3, y4, y5, y6, y7⟩) w := by
  have hu : Tryz.prog.underlying 59 = some (.array 8 5) := by kernel_rfl
  have h5 : Tryz.prog.underlying 5 = some (.int .u8) := by kernel_rfl
  have hs : (sizeOf 5).run Tryz.prog w = .ok 1 w := by kernel_rfl
  have he : ∀ a b : Int, (Op.equalIn (d + 1) 5 (.int .u8 a) (.int .u8 b)).run Tryz.prog w = .ok (a == b) w := fun a b => by simp [Op.equalIn, run_underlying h5]
  have ha : (isAgg 5).run Tryz.prog w = .ok false w := by kernel_rfl
  have hp : ∀ (xs : Array Value) (i : Nat) (a : Int), xs[i]? = some (.int .u8 a) → (part 5 xs i).run Tryz.prog w = .ok (.int .u8 a) w := fun xs i a h => by simp [part, ha, h]
  unfold eqS
  rw [Op.equalIn]
  simp [run_underlying hu, hs, Std.Legacy.Range.forIn_eq_forIn_range', Std.Legacy.Range.size, List.range', hp, he]
  by_cases c0 : x0 = y0 <;> by_cases c1 : x1 = y1 <;> by_cases c2 : x2 = y2 <;> by_cases c3 : x3 = y3 <;> simp only [c0, c1, c2, c3, if_true, if_false, beq_self_eq_true, beq_iff_eq, Bool.true_and] <;> (try simp [c0, c1, c2, c3])
  all_goals (by_cases c4 : x4 = y4 <;> by_cases c5 : x5 = y5 <;> by_cases c6 : x6 = y6 <;> by_cases c7 : x7 = y7 <;> simp [c4, c5, c6, c7])
end Go.Proofs.YtdplnbmioioniaaGreat.Pq
end
section
namespace Go.Proofs.YtdplnbmioioniaaGreat.Pq
open Go.RowKit Go.Proofs.YtdplnbmioioniaaGreatW.PrintWords Go.Proofs.YtdplnbmioioniaaGreatW.PrintLast Go.Proofs.YtdplnbmioioniaaGreatW.PrintMore
attribute [local go_sem] max2_int min2_int max_two min_two max_three min_three max_four min_four
set_option linter.unusedVariables false
set_option linter.unusedSimpArgs false
set_option maxHeartbeats 1000000
abbrev XE := S61
abbrev kXE : Kd XE := k61
def isI (x : Int) : Prop := -9223372036854775808 ≤ x ∧ x ≤ 9223372036854775807
instance (x : Int) : Decidable (isI x) := inferInstanceAs (Decidable (_ ∧ _))
def okX (x : XE) : Prop := isI x.f0 ∧ isI x.f1
instance (x : XE) : Decidable (okX x) := inferInstanceAs (Decidable (_ ∧ _))
theorem C_at_ext {w : World} {A : Option Addr} {n : Nat} {xs : List XE} (h : Kd.C kXE w A n xs) (i : Nat) (hi : i < n) :
    ∃ ad, A = some ad ∧ w.cell? (ad.add (i * 2)) = some (.int .i64 (xs.getD i z61).f0) ∧ w.cell? ⟨(ad.add (i * 2)).block, (ad.add (i * 2)).off + 1, none⟩ = some (.int .i64 (xs.getD i z61).f1) := by
  obtain ⟨ad, h1, h2, h3⟩ := at_T61 h (i : Int) (by omega) (by omega)
  exact ⟨ad, h1, by simpa [rd_T61] using h2, by simpa [rd_T61] using h3⟩
theorem ret3 {a b a' b' : Int} {c c' : Bool} (h1 : a = a') (h2 : b = b') (h3 : c = c') : Ending.returned (.tuple #[.int .i64 a, .int .i64 b, .bool c]) = .returned (.tuple #[.int .i64 a', .int .i64 b', .bool c']) := by rw [h1, h2, h3]
def wi (s c : Int) : Int × Int × Bool := if c ≤ 0 then (0, 0, false) else (mx s 0, mn (s + c) 4096, decide (mx s 0 < mn (s + c) 4096))
theorem extent_within.calls (s c : Int) (hs : isI s) (hc : isI c) (w : World) :
    Calls Tryz.prog 73 #[.agg #[.int .i64 s, .int .i64 c]] w (Ret (.tuple #[.int .i64 (wi s c).1, .int .i64 (wi s c).2.1, .bool (wi s c).2.2]) w) := by
  obtain ⟨hs1, hs2⟩ := hs
  obtain ⟨hc1, hc2⟩ := hc
  by_cases h0 : c ≤ 0
  · have e := Aside0.mk (show wi s c = (0, 0, false) from if_pos h0)
    have g : decide (c ≤ 0) = true := by simpa using h0
    go_enter Tryz.func73, Tryz.ntmps73
    go_wp2
    go_ret3
    exact ⟨by rw [e.out]; rfl, below_alloc (Below.refl _ _) _⟩
  · have e := Aside0.mk (show wi s c = (mx s 0, mn (s + c) 4096, decide (mx s 0 < mn (s + c) 4096)) from if_neg h0)
    have g : decide (c ≤ 0) = false := by simpa using h0
    by_cases h1 : s < 0
    · have g1 : decide (s < 0) = true := by simpa using h1
      have hlo : -9223372036854775808 ≤ s + c := by omega
      have hhi : s + c ≤ 9223372036854775807 := by omega
      go_enter Tryz.func73, Tryz.ntmps73
      go_wp2
      all_goals
        go_ret3
        refine ⟨?_, below_alloc (Below.refl _ _) _⟩
        rw [e.out]
        exact ret3 (by simp only [mx]; split <;> omega) (by simp only [mn]; split <;> omega) (by simp only [mx, mn]; first | exact (decide_eq_true (by (repeat' split) <;> omega)).symm | exact decide_eq_decide.2 (by (repeat' split) <;> omega))
    · have g1 : decide (s < 0) = false := by simpa using h1
      have hlo : -9223372036854775808 ≤ 4096 - s := by omega
      have hhi : 4096 - s ≤ 9223372036854775807 := by omega
      by_cases h2 : c < 4096 - s
      · have g2 : decide (c < 4096 - s) = true := by simpa using h2
        go_enter Tryz.func73, Tryz.ntmps73
        go_wp2
        all_goals
          go_ret3
          refine ⟨?_, below_alloc (Below.refl _ _) _⟩
          rw [e.out]
          exact ret3 (by simp only [mx]; split <;> omega) (by simp only [mn]; split <;> omega) (by simp only [mx, mn]; first | exact (decide_eq_true (by (repeat' split) <;> omega)).symm | exact decide_eq_decide.2 (by (repeat' split) <;> omega))
      · have g2 : decide (c < 4096 - s) = false := by simpa using h2
        go_enter Tryz.func73, Tryz.ntmps73
        go_wp2
        all_goals
          go_ret3
          refine ⟨?_, below_alloc (Below.refl _ _) _⟩
          rw [e.out]
          exact ret3 (by simp only [mx]; split <;> omega) (by simp only [mn]; split <;> omega) (by simp only [mx, mn]; first | exact (decide_eq_true (by (repeat' split) <;> omega)).symm | exact decide_eq_decide.2 (by (repeat' split) <;> omega))
def inX (x : XE) (i : Int) : Bool := decide (0 < x.f1) && decide (mx x.f0 0 ≤ i) && decide (i < mn (x.f0 + x.f1) 4096)
end Go.Proofs.YtdplnbmioioniaaGreat.Pq
end
section
namespace Go.Proofs.YtdplnbmioioniaaGreat.Pq
open Go.RowKit Go.Deep Go.ChangeShapes Go.WideShapes Go.Proofs.YtdplnbmioioniaaGreatW.PrintWords Go.Proofs.YtdplnbmioioniaaGreatW.PrintLast Go.Proofs.YtdplnbmioioniaaGreatW.PrintMore
set_option linter.unusedVariables false
set_option linter.unusedSimpArgs false
set_option maxRecDepth 100000
def Opens {α : Type} (d : Kd α) (e : TypeId) (ok : α → Prop) : Prop :=
  ∀ {H : Type} (enc : TypeId × Value → H) (w : World) (base n : Nat) (cs : List Value) (y : DataW H × List MemPlace), DataW.trod enc Tryz.prog w base (fun _ => true) true n e cs = some y → ∃ x, d.K w x cs ∧ ok x
theorem opens_int {t : TypeId} {k : IntKind} (ht : Tryz.prog.underlying t = some (.int k)) : Opens (Kd.int k) t (fun x => (Lit.int k x).wf = true) := by
  intro H enc w base n cs y h
  obtain ⟨x, rfl, _, hw⟩ := DataW.trod_int ht h
  exact ⟨x, rfl, hw⟩
theorem opens_slice {α : Type} [Inhabited α] {d : Kd α} {e t : TypeId} {ok : α → Prop} (q : Nat) (ht : Tryz.prog.underlying t = some (.slice e)) (hc : Tryz.prog.cellsOf e = d.sz) (ho : Opens d e ok) :
    Opens (Kd.slice q d) t (fun xs => xs.length ≤ maxLen ∧ ∀ x ∈ xs, ok x) := by
  intro H enc w base n cs y h
  rcases open_slice ht h with ⟨rfl, _⟩ | ⟨a, len, cap, m, n', D, Pl, rfl, hb, hl, hm, hmm, _, hx⟩
  · exact ⟨[], ⟨none, 0, rfl, Nat.le_refl _, Kd.C_nil _ _⟩, Nat.zero_le _, by simp⟩
  · simp only [if_true] at hmm
    have each : ∀ i, i < len → ∃ x, ok x ∧ ∃ cs', cs'.length = d.sz ∧ d.K w x cs' ∧ ∀ j u, cs'[j]? = some u → w.cell? (a.add (i * d.sz + j)) = some u := by
      intro i hi
      obtain ⟨cs', h1, h2⟩ := hx i (by omega)
      rw [hc] at h1
      obtain ⟨_, hlen, hcell⟩ := World.cells?_some h1
      obtain ⟨x, hk, hok⟩ := ho enc w base n' cs' _ h2
      refine ⟨x, hok, cs', hlen, hk, fun j u hu => ?_⟩
      obtain ⟨hj, rfl⟩ := List.getElem?_eq_some_iff.1 hu
      have := hcell j (by omega)
      rw [Go.Deep.add_add] at this
      rw [this]
      simp [hj]
    obtain ⟨f, hf⟩ := choose_lt each
    have hL : ((List.range len).map f).length = len := by simp
    refine ⟨(List.range len).map f, ⟨some a, cap, by rw [hL], by rw [hL]; exact hl, ?_⟩, by rw [hL]; omega, ?_⟩
    · rw [hL]
      refine ⟨hL, by have := hm; unfold maxLen at this; omega, fun _ => ⟨a, rfl, fun j p hp => ?_⟩⟩
      rw [List.getElem?_map] at hp
      by_cases hj : j < len
      · rw [List.getElem?_range hj] at hp
        simp only [Option.map_some, Option.some.injEq] at hp
        subst hp
        obtain ⟨_, c, h1, h2, h3⟩ := hf j hj
        exact ⟨c, h1, h2, h3⟩
      · rw [List.getElem?_eq_none (by simp; omega)] at hp
        cases hp
    · intro x hx'
      obtain ⟨i, hi, rfl⟩ := List.mem_map.1 hx'
      exact (hf i (List.mem_range.1 hi)).1
instance : Inhabited S61 := ⟨z61⟩
instance : Inhabited S59 := ⟨z59⟩
theorem opens_ext : Opens k61 61 (fun x => (Lit.int .i64 x.f0).wf = true ∧ (Lit.int .i64 x.f1).wf = true) := by
  intro H enc w base n cs y h
  obtain ⟨y0, y1, m, _, hl, h0, h1⟩ := trod_struct2 Tryz.underlying61 h
  have hc : Tryz.prog.cellsOf 61 = 2 := by kernel_rfl
  have hi : Tryz.prog.cellsOf 3 = 1 := by kernel_rfl
  rw [hc] at hl
  match cs, hl with
  | [u, v], _ =>
    have h0' : DataW.trod enc Tryz.prog w base (fun _ => true) true m 3 [u] = some y0 := by simpa [hi] using h0
    have h1' : DataW.trod enc Tryz.prog w base (fun _ => true) true m 3 [v] = some y1 := by simpa [hi] using h1
    obtain ⟨x0, e0, _, w0⟩ := DataW.trod_int Tryz.underlying3 h0'
    obtain ⟨x1, e1, _, w1⟩ := DataW.trod_int Tryz.underlying3 h1'
    cases e0; cases e1
    exact ⟨⟨x0, x1⟩, k61_mk _ _, w0, w1⟩
theorem opens_sec : Opens k59 59 (fun _ => True) := by
  intro H enc w base n cs y h
  have hu : Tryz.prog.underlying 59 = some (.array 8 5) := by kernel_rfl
  have h5 : Tryz.prog.underlying 5 = some (.int .u8) := by kernel_rfl
  obtain ⟨xs, m, _, _, hl, hx, he⟩ := DataW.trod_array hu h
  have hc : Tryz.prog.cellsOf 59 = 8 := by kernel_rfl
  have hi : Tryz.prog.cellsOf 5 = 1 := by kernel_rfl
  rw [hc] at hl
  have each : ∀ (i : Nat) (v : Value), i < 8 → cs[i]? = some v → ∃ x, v = .int .u8 x := by
    intro i v hlt hv
    have h1 := he i hlt
    rw [hi, Nat.mul_one, List.getElem?_eq_getElem (by omega)] at h1
    obtain ⟨hj, rfl⟩ := List.getElem?_eq_some_iff.1 hv
    rw [List.drop_eq_getElem_cons hj] at h1
    obtain ⟨x, e, _⟩ := DataW.trod_int h5 h1
    simp only [List.take_succ_cons, List.take_zero, List.cons.injEq, and_true] at e
    exact ⟨x, e⟩
  match cs, hl with
  | [v0, v1, v2, v3, v4, v5, v6, v7], _ =>
    obtain ⟨x0, rfl⟩ := each 0 v0 (by decide) rfl
    obtain ⟨x1, rfl⟩ := each 1 v1 (by decide) rfl
    obtain ⟨x2, rfl⟩ := each 2 v2 (by decide) rfl
    obtain ⟨x3, rfl⟩ := each 3 v3 (by decide) rfl
    obtain ⟨x4, rfl⟩ := each 4 v4 (by decide) rfl
    obtain ⟨x5, rfl⟩ := each 5 v5 (by decide) rfl
    obtain ⟨x6, rfl⟩ := each 6 v6 (by decide) rfl
    obtain ⟨x7, rfl⟩ := each 7 v7 (by decide) rfl
    exact ⟨⟨x0, x1, x2, x3, x4, x5, x6, x7⟩, k59_mk _ _, trivial⟩
theorem okX_of (x : S61) (h : (Lit.int .i64 x.f0).wf = true ∧ (Lit.int .i64 x.f1).wf = true) : okX x := ⟨bounds_i64 h.1, bounds_i64 h.2⟩
theorem opens_arg {α : Type} [Inhabited α] {d : Kd α} {e t : TypeId} {ok : α → Prop} (ht : Tryz.prog.underlying t = some (.slice e)) (hc : Tryz.prog.cellsOf e = d.sz) (ho : Opens d e ok) {H : Type} (enc : TypeId × Value → H) (w : World) (base n : Nat) {A : Option Addr} {len cap : Nat} {y : DataW H × List MemPlace}
    (h : DataW.trod enc Tryz.prog w base (fun _ => true) true n t [.slice A len cap] = some y) : ∃ l : List α, l.length = len ∧ len ≤ cap ∧ Kd.C d w A len l ∧ len ≤ maxLen ∧ ∀ x ∈ l, ok x := by
  obtain ⟨l, ⟨A', c', e1, hl, hC⟩, hm, hok⟩ := opens_slice 0 ht hc ho enc w base n _ _ h
  cases e1
  exact ⟨l, rfl, hl, hC, hm, hok⟩
end Go.Proofs.YtdplnbmioioniaaGreat.Pq
end
section
namespace Go.Proofs.YtdplnbmioioniaaGreat.Pq
open Go.RowKit Go.Proofs.YtdplnbmioioniaaGreatW.PrintWords Go.Proofs.YtdplnbmioioniaaGreatW.PrintLast Go.Proofs.YtdplnbmioioniaaGreatW.PrintMore
set_option linter.unusedVariables false
set_option linter.unusedSimpArgs false
set_option maxHeartbeats 1000000
structure En where
  a : Int
  l : Int
  s : Int
deriving DecidableEq, Inhabited
def kEn : Kd En := Kd.iso (Kd.pair (Kd.int .i64) (Kd.pair (Kd.int .i64) (Kd.int .i64))) (fun x => (x.a, x.l, x.s))
def encEn (x : En) : List Value := [.int .i64 x.a, .int .i64 x.l, .int .i64 x.s]
theorem kEn_K {w : World} {x : En} {cs : List Value} (h : kEn.K w x cs) : cs = encEn x := by
  obtain ⟨_, _, rfl, rfl, _, _, rfl, rfl, rfl⟩ := h
  rfl
theorem kEn_M {w : World} {base : Nat} {ok : Nat → Prop} {x : En} {cs : List Value} (h : kEn.M w base ok x cs) : cs = encEn x := by
  obtain ⟨_, _, rfl, rfl, _, _, rfl, rfl, rfl⟩ := h
  rfl
theorem kEn_mk (w : World) (base : Nat) (ok : Nat → Prop) (x : En) : kEn.M w base ok x (encEn x) := ⟨[.int .i64 x.a], [.int .i64 x.l, .int .i64 x.s], rfl, rfl, [.int .i64 x.l], [.int .i64 x.s], rfl, rfl, rfl⟩
theorem infoEn : (Tryz.prog.info? 142).map (fun i => (i.zero, i.size, i.bytes)) = some (some (.agg #[.int .i64 0, .int .i64 0, .int .i64 0]), 3, 24) := by kernel_rfl
def cmpI (x y : Int) : Int := if x < y then -1 else if y < x then 1 else 0
theorem cmp_isNaN.same (x : Int) (w : World) : Calls Tryz.prog 103 #[.int .i64 x] w fun e w' => e = .returned (.bool false) ∧ w = w' := by
  go_enter Tryz.func103, Tryz.ntmps103
  go_wp2
  go_ret
  exact ⟨by simp, rfl⟩
theorem cmp_Compare.same (x y : Int) (w : World) : Calls Tryz.prog 100 #[.int .i64 x, .int .i64 y] w fun e w' => e = .returned (.int .i64 (cmpI x y)) ∧ w = w' := by
  by_cases h : x < y
  · have e := Aside0.mk (show cmpI x y = -1 from if_pos h)
    have g : decide (x < y) = true := by simpa using h
    go_enter Tryz.func100, Tryz.ntmps100
    go_wp2_with (go_at_call 103; refine (cmp_isNaN.same _ _).mono ?_; rintro e w' ⟨rfl, rfl⟩)
    go_ret
    exact ⟨by rw [e.out]; rfl, rfl⟩
  · have g : decide (x < y) = false := by simpa using h
    by_cases h2 : y < x
    · have e := Aside0.mk (show cmpI x y = 1 from (if_neg h).trans (if_pos h2))
      have g2 : decide (y < x) = true := by simpa using h2
      go_enter Tryz.func100, Tryz.ntmps100
      go_wp2_with (go_at_call 103; refine (cmp_isNaN.same _ _).mono ?_; rintro e w' ⟨rfl, rfl⟩)
      go_ret
      exact ⟨by rw [e.out]; rfl, rfl⟩
    · have e := Aside0.mk (show cmpI x y = 0 from (if_neg h).trans (if_neg h2))
      have g2 : decide (y < x) = false := by simpa using h2
      go_enter Tryz.func100, Tryz.ntmps100
      go_wp2_with (go_at_call 103; refine (cmp_isNaN.same _ _).mono ?_; rintro e w' ⟨rfl, rfl⟩)
      go_ret
      exact ⟨by rw [e.out]; rfl, rfl⟩
theorem extent_ends_1.calls (x y : En) (w : World) : Calls Tryz.prog 99 #[.agg #[.int .i64 x.a, .int .i64 x.l, .int .i64 x.s], .agg #[.int .i64 y.a, .int .i64 y.l, .int .i64 y.s]] w fun e w' =>
    e = .returned (.int .i64 (cmpI x.a y.a)) ∧ w' = (w.alloc (.cells #[.int .i64 x.a, .int .i64 x.l, .int .i64 x.s] 142)).alloc (.cells #[.int .i64 y.a, .int .i64 y.l, .int .i64 y.s] 142) := by
  go_enter Tryz.func99, Tryz.ntmps99
  go_wp2_with (go_at_call 100; refine (cmp_Compare.same _ _ _).mono ?_; rintro e w' ⟨rfl, rfl⟩)
  go_ret
  exact ⟨rfl, rfl⟩
def endsX (i : Int) (x : XE) : List En := if (wi x.f0 x.f1).2.2 then [⟨(wi x.f0 x.f1).1, i, 1⟩, ⟨(wi x.f0 x.f1).2.1, i, -1⟩] else []
def endsL (i : Int) (l : List XE) : List En := l.flatMap (endsX i)
def endsOf : Nat → List (List XE) → List En
  | _, [] => []
  | i, l :: r => endsL i l ++ endsOf (i + 1) r
theorem endsL_drop (i : Int) (l : List XE) (j : Nat) (hj : j < l.length) : endsL i (l.drop j) = endsX i (l.getD j z61) ++ endsL i (l.drop (j + 1)) := by
  unfold endsL
  rw [List.drop_eq_getElem_cons hj, List.flatMap_cons, List.getD_eq_getElem?_getD, List.getElem?_eq_getElem hj]; rfl
theorem endsOf_drop (ls : List (List XE)) (k : Nat) (hk : k < ls.length) : endsOf k (ls.drop k) = endsL k (ls.getD k []) ++ endsOf (k + 1) (ls.drop (k + 1)) := by
  rw [List.drop_eq_getElem_cons hk, endsOf, List.getD_eq_getElem?_getD, List.getElem?_eq_getElem hk]; rfl
theorem endsX_len (i : Int) (x : XE) : (endsX i x).length ≤ 2 := by unfold endsX; split <;> simp
theorem endsL_len (i : Int) (l : List XE) : (endsL i l).length ≤ 2 * l.length := by
  induction l with
  | nil => simp [endsL]
  | cons x r ih =>
    have := endsX_len i x
    simp only [endsL, List.flatMap_cons, List.length_append, List.length_cons] at *
    omega
theorem two_read (W0 : World) (x y : En) : ReadsRow (fun z cs => cs = encEn z) 3 (W0.alloc (.cells #[.int .i64 x.a, .int .i64 x.l, .int .i64 x.s, .int .i64 y.a, .int .i64 y.l, .int .i64 y.s] 142)) (some ⟨W0.heap.size, 0, none⟩) 2 [x, y] := by
  refine ⟨rfl, by omega, fun _ => ⟨_, rfl, fun j p hj => ⟨encEn p, rfl, rfl, fun i u hu => ?_⟩⟩⟩
  have hi : i < 3 := by have := (List.getElem?_eq_some_iff.1 hu).1; simpa [encEn] using this
  match j, hj with
  | 0, hj =>
    obtain rfl : x = p := by simpa using hj
    match i, hi with
    | 0, _ => simpa [encEn, add_plain] using hu
    | 1, _ => simpa [encEn, add_plain] using hu
    | 2, _ => simpa [encEn, add_plain] using hu
  | 1, hj =>
    obtain rfl : y = p := by simpa using hj
    match i, hi with
    | 0, _ => simpa [encEn, add_plain] using hu
    | 1, _ => simpa [encEn, add_plain] using hu
    | 2, _ => simpa [encEn, add_plain] using hu
  | j + 2, hj => simp at hj
end Go.Proofs.YtdplnbmioioniaaGreat.Pq
end
section
namespace Go.Proofs.YtdplnbmioioniaaGreat.Pq
open Go.RowKit Go.Sort Go.Proofs.YtdplnbmioioniaaGreatW.PrintWords Go.Proofs.YtdplnbmioioniaaGreatW.PrintLast Go.Proofs.YtdplnbmioioniaaGreatW.PrintMore
set_option linter.unusedVariables false
set_option linter.unusedSimpArgs false
variable {α : Type} [Inhabited α] {d : Kd α} {enc : α → List Value} {k : Nat}
theorem flat_at (hk : ∀ x, (enc x).length = k) (xs : Array α) (i t : Nat) (hi : i < xs.size) (ht : t < k) : (flatK enc k xs)[i * k + t]! = (enc xs[i]!)[t]! := by
  have h0 : 0 < k := by omega
  have h1 : i * k + t < xs.size * k := by
    have : (i + 1) * k ≤ xs.size * k := Nat.mul_le_mul_right k (by omega)
    rw [Nat.add_mul, Nat.one_mul] at this
    omega
  rw [get_flatK _ _ _ _ h1]
  have a : (i * k + t) / k = i := by rw [Nat.mul_comm, Nat.mul_add_div h0, Nat.div_eq_of_lt ht, Nat.add_zero]
  have b : (i * k + t) % k = t := by rw [Nat.mul_comm, Nat.mul_add_mod, Nat.mod_eq_of_lt ht]
  rw [a, b]
theorem flat_seg (hk : ∀ x, (enc x).length = k) (xs : Array α) (i : Nat) (hi : i < xs.size) : ((flatK enc k xs).toList.drop (i * k)).take k = enc xs[i]! := by
  have h1 : i * k + k ≤ xs.size * k := by
    have : (i + 1) * k ≤ xs.size * k := Nat.mul_le_mul_right k (by omega)
    rwa [Nat.add_mul, Nat.one_mul] at this
  have hs : (flatK enc k xs).toList.length = xs.size * k := by rw [Array.length_toList, size_flatK]
  apply List.ext_getElem
  · rw [List.length_take, List.length_drop, hs, hk]; omega
  · intro t a b
    rw [hk] at b
    rw [List.getElem_take, List.getElem_drop]
    have := flat_at hk xs i t hi b
    rw [getElem!_pos _ _ (by rw [size_flatK]; omega), getElem!_pos (enc xs[i]!) t (by rw [hk]; exact b)] at this
    rw [← this]
    simp
theorem reps_flat {R : α → List Value → Prop} (hR : ∀ x, R x (enc x)) (hk : ∀ x, (enc x).length = k) (xs : Array α) : Reps R k xs.toList (flatK enc k xs).toList := by
  refine ⟨by rw [Array.length_toList, size_flatK, Array.length_toList], fun j p hj => ?_⟩
  have hlt : j < xs.size := by have := (List.getElem?_eq_some_iff.1 hj).1; simpa using this
  rw [flat_seg hk xs j hlt]
  have e : xs[j]! = p := by
    have := (List.getElem?_eq_some_iff.1 hj).2
    rw [getElem!_pos xs j hlt, ← this]; simp
  rw [e]; exact hR p
theorem holdsK_of_R {e base g n cap : Nat} {ok : Nat → Prop} {w : World} {xs : List α} (hM : ∀ w base ok x cs, d.M w base ok x cs → cs = enc x) (hsz : d.sz = k) (hk : ∀ x, (enc x).length = k)
    (h : Kd.R d e w base ok (.slice (some ⟨g, 0, none⟩) n cap) xs) : HoldsK enc k w g 0 xs.toArray := by
  obtain ⟨_, inner, ho, hr⟩ := h
  rcases ho.2 with ⟨hv, _⟩ | ⟨g', cap', cur, hv, _, hg, hn, _, hs, ht⟩
  · cases hv
  injection hv with ha hn' hc'
  injection ha with ha
  injection ha with ha
  subst ha
  subst hsz
  intro j hj
  have hj' : j < xs.length * d.sz := by simpa using hj
  have hl : inner.length = xs.length * d.sz := ho.1
  refine ⟨?_, by simp [World.frozen?, hg]⟩
  have h0 : 0 < d.sz := by rcases Nat.eq_zero_or_pos d.sz with h | h; · rw [h] at hj'; omega
                           · exact h
  have hi : j / d.sz < xs.length := Nat.div_lt_of_lt_mul (by rw [Nat.mul_comm]; exact hj')
  have hm : j % d.sz < d.sz := Nat.mod_lt _ h0
  have hjj : j = j / d.sz * d.sz + j % d.sz := by rw [Nat.mul_comm]; exact (Nat.div_add_mod j d.sz).symm
  have hseg := hM _ _ _ _ _ (hr.2 (j / d.sz) xs[j / d.sz] (List.getElem?_eq_getElem hi))
  have h1 : cur[j]? = inner[j]? := by
    rw [← ht, List.getElem?_take, if_pos hj', Array.getElem?_toList]
  have h2 : inner[j]? = (enc xs[j / d.sz])[j % d.sz]? := by
    rw [← hseg, List.getElem?_take, if_pos hm, List.getElem?_drop, ← hjj]
  simp only [World.cell?, hg, Nat.zero_add]
  simp only [Option.isSome_none, Bool.false_eq_true, if_false]
  rw [h1, h2]
  have h3 := get_flatK enc d.sz xs.toArray j (by simpa using hj')
  rw [show (id (flatK enc d.sz xs.toArray)[j]! : Value) = (flatK enc d.sz xs.toArray)[j]! from rfl, h3]
  have e1 : xs.toArray[j / d.sz]! = xs[j / d.sz] := by rw [getElem!_pos _ _ (by simpa using hi)]; simp
  rw [e1, getElem!_pos _ _ (by rw [hk]; exact hm)]
  exact List.getElem?_eq_getElem (by rw [hk]; exact hm)
theorem sortWorld_size (w : World) (g m : Nat) (xs : Array α) (os : Array Obj) : w.heap.size ≤ (sortWorldK enc k w g 0 m xs os).heap.size := by
  unfold sortWorldK grow
  simp [putRowK, putRow, mapBlock]
theorem R_of_sort {e base g n cap : Nat} {w : World} {xs : List α} (hR : ∀ w base ok x, d.M w base ok x (enc x)) (hsz : d.sz = k) (hk : ∀ x, (enc x).length = k)
    (h : Kd.R d e w base (fun _ => True) (.slice (some ⟨g, 0, none⟩) n cap) xs) (ys : Array α) (hl : ys.size = xs.length) (m : Nat) (os : Array Obj) :
    Kd.R d e (sortWorldK enc k w g 0 m ys os) base (fun _ => True) (.slice (some ⟨g, 0, none⟩) n cap) ys.toList ∧ Below base w (sortWorldK enc k w g 0 m ys os) := by
  obtain ⟨_, inner, ho, hr⟩ := h
  have hb : base ≤ g := own_base ho g rfl
  subst hsz
  rcases ho.2 with ⟨hv, _⟩ | ⟨g', cap', cur, hv, _, hg, hn, hmx, hs, ht⟩
  · cases hv
  injection hv with ha hn' hc'
  injection ha with ha
  injection ha with ha
  subst ha hn' hc'
  have hlt : g < w.heap.size := (Array.getElem?_eq_some_iff.1 hg).1
  have hheap : ∀ i, i < w.heap.size → (sortWorldK enc d.sz w g 0 m ys os).heap[i]? = if i = g then some (.cells (putCells id 0 (flatK enc d.sz ys) cur) e (0, 0)) else w.heap[i]? := by
    intro i hi
    have a : (sortWorldK enc d.sz w g 0 m ys os).heap[i]? = (w.heap.modify g (onCells (putCells id 0 (flatK enc d.sz ys))))[i]? := by
      unfold sortWorldK grow
      show ((w.heap.modify g (onCells (putCells id 0 (flatK enc d.sz ys)))) ++ os)[i]? = _
      rw [Array.getElem?_append_left (by simpa using hi)]
    rw [a, Array.getElem?_modify]
    by_cases e1 : g = i
    · subst e1
      rw [if_pos rfl, if_pos rfl, hg]; rfl
    · rw [if_neg e1, if_neg (Ne.symm e1)]
  have hfs : (flatK enc d.sz ys).size = xs.length * d.sz := by rw [size_flatK, hl]
  have hle : xs.length * d.sz ≤ cur.size := by rw [hs]; exact Nat.mul_le_mul_right _ hn
  refine ⟨⟨fun _ _ => trivial, (flatK enc d.sz ys).toList, ⟨by simp, .inr ⟨g, cap, putCells id 0 (flatK enc d.sz ys) cur, ?_, hb, ?_, by simpa [hl] using hn, hmx, by simp [putCells, hs], ?_⟩⟩, reps_flat (fun x => hR _ _ _ x) hk ys⟩, ?_⟩
  · simp [hl]
  · rw [hheap g hlt, if_pos rfl]
  · rw [show ys.toList.length = xs.length by simpa using hl]
    apply List.ext_getElem?
    intro j
    rw [List.getElem?_take]
    by_cases hj : j < xs.length * d.sz
    · rw [if_pos hj, Array.getElem?_toList, Array.getElem?_toList]
      simp only [putCells, Array.getElem?_mapIdx]
      rw [Array.getElem?_eq_getElem (show j < cur.size by omega), Array.getElem?_eq_getElem (show j < (flatK enc d.sz ys).size by omega)]
      simp only [Option.map_some, Nat.zero_le, Nat.zero_add, true_and, Nat.sub_zero, id]
      rw [if_pos (by omega), getElem!_pos _ _ (by omega)]
    · rw [if_neg hj, List.getElem?_eq_none (by rw [Array.length_toList]; omega)]
  · exact ⟨rfl, rfl, rfl, sortWorld_size w g m ys os, fun i hi => by
      rw [hheap i (by omega), if_neg (by omega)]⟩
end Go.Proofs.YtdplnbmioioniaaGreat.Pq
end
section
namespace Go.Proofs
open Go.Shelf
def Tryz.sortL_ren : Go.Shelf.Ren := ⟨fun | 6 => 98 | 15 => 102 | 14 => 101 | 28 => 112 | 29 => 113 | 20 => 104 | 21 => 105 | 22 => 106 | 23 => 107 | 24 => 108 | 25 => 109 | 26 => 110 | 27 => 111 | 46 => 114 | 47 => 115 | 48 => 116 | 49 => 117 | 50 => 118 | 57 => 119 | n => n, fun | 22 => 138 | 24 => 142 | 25 => 146 | 3 => 3 | 39 => 149 | 0 => 0 | 53 => 159 | 55 => 161 | 4 => 4 | 46 => 152 | 45 => 151 | 50 => 156 | 5 => 5 | 9 => 9 | 66 => 162 | 70 => 166 | 76 => 168 | 77 => 51 | n => n, fun | n => n⟩
theorem Tryz.sortL : Go.Proofs.SlLaysF0.n6 Tryz.prog Tryz.sortL_ren := {
  mixed := by kernel_rfl
  f6 := ⟨Tryz.f98.name, by decide, Tryz.func98.trans (congrArg some (by kernel_rfl))⟩
  f14 := ⟨Tryz.f101.name, by decide, Tryz.func101.trans (congrArg some (by kernel_rfl))⟩
  f15 := Tryz.func102.trans (congrArg some (by kernel_rfl))
  f20 := ⟨Tryz.f104.name, by decide, Tryz.func104.trans (congrArg some (by kernel_rfl))⟩
  f21 := ⟨Tryz.f105.name, by decide, Tryz.func105.trans (congrArg some (by kernel_rfl))⟩
  f22 := ⟨Tryz.f106.name, by decide, Tryz.func106.trans (congrArg some (by kernel_rfl))⟩
  f23 := ⟨Tryz.f107.name, by decide, Tryz.func107.trans (congrArg some (by kernel_rfl))⟩
  f24 := ⟨Tryz.f108.name, by decide, Tryz.func108.trans (congrArg some (by kernel_rfl))⟩
  f25 := ⟨Tryz.f109.name, by decide, Tryz.func109.trans (congrArg some (by kernel_rfl))⟩
  f26 := ⟨Tryz.f110.name, by decide, Tryz.func110.trans (congrArg some (by kernel_rfl))⟩
  f27 := ⟨Tryz.f111.name, by decide, Tryz.func111.trans (congrArg some (by kernel_rfl))⟩
  f28 := Tryz.func112.trans (congrArg some (by kernel_rfl))
  f29 := Tryz.func113.trans (congrArg some (by kernel_rfl))
  f46 := ⟨Tryz.f114.name, by decide, Tryz.func114.trans (congrArg some (by kernel_rfl))⟩
  f47 := Tryz.func115.trans (congrArg some (by kernel_rfl))
  f48 := Tryz.func116.trans (congrArg some (by kernel_rfl))
  f49 := ⟨Tryz.f117.name, by decide, Tryz.func117.trans (congrArg some (by kernel_rfl))⟩
  f50 := ⟨Tryz.f118.name, by decide, Tryz.func118.trans (congrArg some (by kernel_rfl))⟩
  f57 := ⟨Tryz.f119.name, by decide, Tryz.func119.trans (congrArg some (by kernel_rfl))⟩
  t0 := Tryz.underlying0
  a0 := Tryz.isAgg0
  z0 := Tryz.sizeOf0
  v0 := Tryz.zeroValue0
  t3 := Tryz.underlying3
  a3 := Tryz.isAgg3
  z3 := Tryz.sizeOf3
  v3 := Tryz.zeroValue3
  t4 := Tryz.underlying4
  a4 := Tryz.isAgg4
  z4 := Tryz.sizeOf4
  v4 := Tryz.zeroValue4
  t5 := Tryz.underlying5
  a5 := Tryz.isAgg5
  z5 := Tryz.sizeOf5
  v5 := Tryz.zeroValue5
  t9 := Tryz.underlying9
  a9 := Tryz.isAgg9
  z9 := Tryz.sizeOf9
  v9 := Tryz.zeroValue9
  t22 := Tryz.underlying138
  a22 := Tryz.isAgg138
  z22 := Tryz.sizeOf138
  v22 := Tryz.zeroValue138
  t25 := Tryz.underlying146
  a25 := Tryz.isAgg146
  z25 := Tryz.sizeOf146
  v25 := Tryz.zeroValue146
  t39 := Tryz.underlying149
  a39 := Tryz.isAgg149
  z39 := Tryz.sizeOf149
  v39 := Tryz.zeroValue149
  t45 := Tryz.underlying151
  a45 := Tryz.isAgg151
  z45 := Tryz.sizeOf151
  v45 := Tryz.zeroValue151
  t46 := Tryz.underlying152
  a46 := Tryz.isAgg152
  z46 := Tryz.sizeOf152
  v46 := Tryz.zeroValue152
  t50 := Tryz.underlying156
  a50 := Tryz.isAgg156
  z50 := Tryz.sizeOf156
  v50 := Tryz.zeroValue156
  t53 := Tryz.underlying159
  a53 := Tryz.isAgg159
  z53 := Tryz.sizeOf159
  v53 := Tryz.zeroValue159
  t55 := Tryz.underlying161
  a55 := Tryz.isAgg161
  z55 := Tryz.sizeOf161
  v55 := Tryz.zeroValue161
  t66 := Tryz.underlying162
  a66 := Tryz.isAgg162
  z66 := Tryz.sizeOf162
  v66 := Tryz.zeroValue162
  t70 := Tryz.underlying166
  a70 := Tryz.isAgg166
  z70 := Tryz.sizeOf166
  v70 := Tryz.zeroValue166
  t76 := Tryz.underlying168
  a76 := Tryz.isAgg168
  z76 := Tryz.sizeOf168
  v76 := Tryz.zeroValue168
  t77 := Tryz.underlying51
  a77 := Tryz.isAgg51
  z77 := Tryz.sizeOf51
  v77 := Tryz.zeroValue51 }
end Go.Proofs
end
section
namespace Go.Proofs.YtdplnbmioioniaaGreat.Pq
open Go.RowKit Go.Sort Go.Shelf Go.Lib Go.Proofs.YtdplnbmioioniaaGreatW.PrintWords Go.Proofs.YtdplnbmioioniaaGreatW.PrintLast Go.Proofs.YtdplnbmioioniaaGreatW.PrintMore
set_option linter.unusedVariables false
set_option linter.unusedSimpArgs false
set_option maxHeartbeats 1000000
def SortedEn (l : List En) : Prop := l.Pairwise fun x y => x.a ≤ y.a
def PostSort (base : Nat) (v : Value) (xs : List En) (W : World) (e : Ending) (w' : World) : Prop :=
  e = .returned (.tuple #[]) ∧ ∃ zs, Kd.R kEn 142 w' base (fun _ => True) v zs ∧ zs.Perm xs ∧ SortedEn zs ∧ Below base W w'
def cfEn (x y : En) : Int := cmpI x.a y.a
theorem ltEn (x y : En) : ltOf cfEn x y = decide (x.a < y.a) := by
  unfold ltOf cfEn cmpI
  by_cases h : x.a < y.a
  · simp [h]
  · by_cases h2 : y.a < x.a <;> simp [h, h2]
theorem swoEn : SWO (ltOf cfEn) := by
  refine ⟨fun x => by simp [ltEn], fun x y z h1 h2 => ?_, fun x y z h1 h2 => ?_⟩
  · simp only [ltEn, decide_eq_true_eq] at *; omega
  · simp only [ltEn, decide_eq_false_iff_not] at *; omega
theorem encEn_len (x : En) : (encEn x).length = 3 := rfl
theorem cmpEn (blk off size : Nat) (w : World) : CmpLays Tryz.prog 99 #[] encEn 3 cfEn blk off size w := by
  intro m os dk hdk x y
  refine (extent_ends_1.calls x y _).mono ?_
  rintro e w' ⟨rfl, rfl⟩
  exact ⟨rfl, 0, #[.cells #[.int .i64 x.a, .int .i64 x.l, .int .i64 x.s] 142 (0, 0), .cells #[.int .i64 y.a, .int .i64 y.l, .int .i64 y.s] 142 (0, 0)], by rw [World.drewN_zero, alloc_eq_grow, alloc_eq_grow, grow_grow]; rfl⟩
theorem sort_ends.calls (base : Nat) (v : Value) (xs : List En) (W : World) (h : Kd.R kEn 142 W base (fun _ => True) v xs) (hb : base ≤ W.heap.size) (hl : xs.length < 4611686018427387904) :
    Calls Tryz.prog 98 #[v, .func (.func 99) #[] #[]] W (PostSort base v xs W) := by
  obtain ⟨A, c, rfl, hc, hC⟩ := Kd.R_reads h
  cases xs with
  | nil =>
    refine (AnyF.slices_SortFunc_none Tryz.sortL A c _ W).mono ?_
    rintro e w' ⟨rfl, rfl⟩
    exact ⟨rfl, [], h, .refl _, .nil, Below.refl _ _⟩
  | cons x r =>
    obtain ⟨g, rfl⟩ : ∃ g, A = some ⟨g, 0, none⟩ := by
      obtain ⟨_, inner, ho, _⟩ := h
      rcases ho.2 with ⟨hv, _⟩ | ⟨g', cap', cur, hv, _⟩
      · cases hv
      · cases hv; exact ⟨g', rfl⟩
    have hH := holdsK_of_R (d := kEn) (enc := encEn) (k := 3) (fun w base ok x cs hm => kEn_M hm) rfl encEn_len h
    have hg : g < W.heap.size := by obtain ⟨_, inner, ho, _⟩ := h; exact own_lt ho g rfl
    have hs := AnyQ.slices_SortFunc Tryz.sortL 3 (fun w => Tryz.isAgg142 w) (fun w => Tryz.sizeOf142 w) encEn encEn_len (fun x v hv => by simp [encEn] at hv; rcases hv with rfl | rfl | rfl <;> rfl) cfEn swoEn 99 #[] g 0 c (x :: r).toArray W
      (enters_of Tryz.func99 (by kernel_rfl) rfl) (cmpEn _ _ _ _) hH hg (by simpa using hl)
    refine hs.mono ?_
    rintro e w' ⟨rfl, d', n, os, hp, hso, rfl⟩
    obtain ⟨hsz, _, hperm⟩ := hp
    have e1 : d'.extract 0 (x :: r).toArray.size = d' := by rw [← hsz]; exact Array.extract_size
    rw [e1, Array.extract_size] at hperm
    obtain ⟨hR, hB⟩ := R_of_sort (d := kEn) (enc := encEn) (k := 3) (fun w base ok x => kEn_mk w base ok x) rfl encEn_len h d' (by simpa using hsz) n os
    refine ⟨rfl, d'.toList, hR, by simpa using hperm, ?_, hB⟩
    unfold SortedEn
    rw [List.pairwise_iff_getElem]
    intro i j hi hj hij
    have hi' : i < d'.size := by simpa using hi
    have hj' : j < d'.size := by simpa using hj
    have := hso i j (Nat.zero_le _) hij (by omega)
    rw [getElem!_pos d' j hj', getElem!_pos d' i hi', ltEn] at this
    simpa using this
end Go.Proofs.YtdplnbmioioniaaGreat.Pq
end
section
namespace Go.Proofs.YtdplnbmioioniaaGreat.Pq
open Go.RowKit Go.Proofs.YtdplnbmioioniaaGreatW.PrintWords Go.Proofs.YtdplnbmioioniaaGreatW.PrintLast Go.Proofs.YtdplnbmioioniaaGreatW.PrintMore
set_option linter.unusedVariables false
set_option linter.unusedSimpArgs false
set_option maxHeartbeats 2000000
set_option maxRecDepth 100000
def RetEnds (ls : List (List XE)) (w : World) (e : Ending) (w' : World) : Prop :=
  ∃ v zs, e = .returned v ∧ Kd.R kEn 142 w' w.heap.size (fun _ => True) v zs ∧ zs.Perm (endsOf 0 ls) ∧ SortedEn zs ∧ Below w.heap.size w w'
theorem extent_ends.calls (A : Option Addr) (c : Nat) (ls : List (List XE)) (w : World) (hr : Kd.C (Kd.slice 61 kXE) w A ls.length ls) (hc : ls.length ≤ c)
    (hok : ∀ l ∈ ls, ∀ x ∈ l, okX x) (hl : (endsOf 0 ls).length ≤ 1048576) :
    Calls Tryz.prog 95 #[.slice A ls.length c] w (RetEnds ls w) := by
  have hmax := Kd.C_max hr
  have HL := Aside0.mk hl
  have HOK := Aside0.mk hok
  clear hl hok
  go_enter Tryz.func95, Tryz.ntmps95
  go_wp2
  go_loopg [3, 13] ls.length (fun gg s3 s13 wr => ∃ (kk : Nat) (out : List En), kk ≤ ls.length ∧ ls.length - kk ≤ gg ∧ s13 = .int .i64 kk ∧ Aside0 (Below w.heap.size w wr) ∧ Aside0 (Kd.R kEn 142 wr w.heap.size (fun _ => True) s3 out) ∧ Aside0 (out ++ endsOf kk (ls.drop kk) = endsOf 0 ls))
  case atStart => exact ⟨0, [], Nat.zero_le _, by omega, rfl, ⟨Below.refl _ w⟩, ⟨Kd.R_nil _ _ _ _ _⟩, ⟨rfl⟩⟩
  case round =>
    obtain ⟨kk, out, hkk, hg, rfl, BW, HO, HE⟩ := hrel
    by_cases hlt : kk < ls.length
    · obtain ⟨ad, A', c', rfl, hcell0, hc', hrow0⟩ := C_at_row hr kk hlt
      have hcell := pw_cell_below BW.out hcell0
      have hrow := Aside0.mk hrow0
      have HOK' := Aside0.mk (show ∀ x ∈ ls.getD kk [], okX x by rw [List.getD_eq_getElem?_getD, List.getElem?_eq_getElem hlt]; exact HOK.out _ (List.getElem_mem hlt))
      have HE' := Aside0.mk (show (out ++ endsL kk (ls.getD kk [])) ++ endsOf (kk + 1) (ls.drop (kk + 1)) = endsOf 0 ls by rw [List.append_assoc, ← endsOf_drop ls kk hlt]; exact HE.out)
      clear hcell0 hrow0 HE hc'
      generalize ls.getD kk [] = y at hcell hrow HOK' HE'
      have hmy := Kd.C_max hrow.out
      obtain ⟨wo, hwo⟩ : ∃ wo : World, wo = wr := ⟨_, rfl⟩
      rw [← hwo] at BW HO hcell ⊢
      clear hwo wr
      go_wp2
      go_loopg [3, 20] y.length (fun gg s3 s20 wr => ∃ (jj : Nat) (out2 : List En), jj ≤ y.length ∧ y.length - jj ≤ gg ∧ s20 = .int .i64 jj ∧ Aside0 (Below w.heap.size w wr) ∧ Aside0 (Kd.R kEn 142 wr w.heap.size (fun _ => True) s3 out2) ∧ Aside0 (out2 ++ endsL kk (y.drop jj) = out ++ endsL kk y))
      case atStart => exact ⟨0, out, Nat.zero_le _, by omega, rfl, BW, HO, ⟨rfl⟩⟩
      case round =>
        obtain ⟨jj, out2, hjj, hg2, rfl, BW2, HO2, HE2⟩ := hrel
        by_cases hlt2 : jj < y.length
        · obtain ⟨ad2, rfl, hc0, hc1⟩ := C_at_ext (C_step hrow.out BW2.out) jj hlt2
          have hx := HOK'.out (y.getD jj z61) (by rw [List.getD_eq_getElem?_getD, List.getElem?_eq_getElem hlt2]; exact List.getElem_mem hlt2)
          have HE3 := Aside0.mk (show (out2 ++ endsX kk (y.getD jj z61)) ++ endsL kk (y.drop (jj + 1)) = out ++ endsL kk y by rw [List.append_assoc, ← endsL_drop kk y jj hlt2]; exact HE2.out)
          have hwi := fun W => extent_within.calls _ _ hx.1 hx.2 W
          clear HE2 hx
          generalize y.getD jj z61 = x at hc0 hc1 HE3 hwi
          have hkk' : (endsX kk x).length ≤ 2 := endsX_len _ _
          have hlen := Aside0.mk (show out2.length + 2 ≤ 4194304 by
            have h1 := congrArg List.length HE3.out
            have h2 := congrArg List.length HE'.out
            have h3 := HL.out
            simp only [List.length_append] at h1 h2
            omega)
          clear hkk'
          by_cases hq : (wi x.f0 x.f1).2.2 = true
          · have hx2 := Aside0.mk (show endsX kk x = [⟨(wi x.f0 x.f1).1, kk, 1⟩, ⟨(wi x.f0 x.f1).2.1, kk, -1⟩] from if_pos hq)
            rw [hq] at hwi
            clear hq
            generalize (wi x.f0 x.f1).1 = f at hwi hx2
            generalize (wi x.f0 x.f1).2.1 = t at hwi hx2
            go_wp2_with (first | (go_at_call 73; refine (hwi _).mono ?_; rintro e w1 ⟨rfl, hb1⟩; have n1 := Aside0.mk (below_then (below_alloc (Below.refl _ _) _) (by simp) hb1); clear hb1) | ((with_reducible refine gate_builtin (b := .append) (xs := #[.tmp 31, .tmp 38]) rfl ?_); at_builtin; refine Kd.R_append_rows kEn (w0 := w) w.heap.size rfl (.tmp 31) (.tmp 38) 138 142 (.agg #[.int .i64 0, .int .i64 0, .int .i64 0]) 24 rfl Tryz.underlying138 infoEn rfl (by decide) (by decide) _ out2 [⟨f, kk, 1⟩, ⟨t, kk, -1⟩] _ 2 2 (fun _ => True) (fun _ => False) rfl rfl (Kd.R_alloc (xR_step HO2.out n1.out) _) (two_read w1 ⟨f, kk, 1⟩ ⟨t, kk, -1⟩) (fun z cs h => by subst h; exact kEn_mk _ _ _ _) (fun _ h => h.elim) (fun _ _ => trivial) (below_alloc (below_then BW2.out BW2.out.size n1.out) _) (by have := BW2.out.size; have := n1.out.size; simp; omega) (by have := hlen.out; omega) ?_; intro v1 w2 ho hb hgr hat; have n2 := Aside0.mk ho; have n3 := Aside0.mk hb; clear ho hb hgr hat))
            go_roundg (y.length - (jj + 1))
            case measure => omega
            case rel => exact ⟨jj + 1, out2 ++ endsX kk x, by omega, by omega, by go_num, n3, ⟨by rw [hx2.out]; exact n2.out⟩, HE3⟩
          · have hx2 := Aside0.mk (show endsX kk x = [] from if_neg hq)
            replace hq : (wi x.f0 x.f1).2.2 = false := by simpa using hq
            rw [hq] at hwi
            clear hq
            go_wp2_with (go_at_call 73; refine (hwi _).mono ?_; rintro e w1 ⟨rfl, hb1⟩; have n1 := Aside0.mk (below_then (below_alloc (Below.refl _ _) _) (by simp) hb1); clear hb1)
            go_roundg (y.length - (jj + 1))
            case measure => omega
            case rel => exact ⟨jj + 1, out2 ++ endsX kk x, by omega, by omega, by go_num, ⟨below_then BW2.out BW2.out.size n1.out⟩, ⟨by rw [hx2.out, List.append_nil]; exact xR_step HO2.out n1.out⟩, HE3⟩
        · have hj : jj = y.length := by omega
          subst hj
          go_wp2
          go_roundg (ls.length - (kk + 1))
          case measure => omega
          case rel => exact ⟨kk + 1, out2, by omega, by omega, by go_num, BW2, HO2, ⟨by have h := HE2.out; rw [List.drop_length] at h; rw [← HE'.out, ← h]; simp [endsL]⟩⟩
    · have hk : kk = ls.length := by omega
      subst hk
      have ho : out = endsOf 0 ls := by have h := HE.out; rw [List.drop_length] at h; simpa [endsOf] using h
      subst ho
      have hs := sort_ends.calls w.heap.size _ _ wr HO.out BW.out.size (by have := HL.out; omega)
      clear HO
      go_wp2_with (go_at_call 98; refine hs.mono ?_; rintro e w1 ⟨rfl, zs, h1, h2, h3, h4⟩; have n1 := Aside0.mk h1; have n2 := Aside0.mk h2; have n3 := Aside0.mk h3; have n4 := Aside0.mk h4; clear h1 h2 h3 h4)
      go_ret
      exact ⟨_, _, rfl, n1.out, n2.out, n3.out, BW.out.trans n4.out⟩
end Go.Proofs.YtdplnbmioioniaaGreat.Pq
end
section
namespace Go.Proofs.YtdplnbmioioniaaGreat.Pq
open Go.RowKit Go.Maps Go.Proofs.YtdplnbmioioniaaGreatW.PrintWords Go.Proofs.YtdplnbmioioniaaGreatW.PrintLast Go.Proofs.YtdplnbmioioniaaGreatW.PrintMore
set_option linter.unusedVariables false
set_option linter.unusedSimpArgs false
def isT (T : List Nat) (o : Obj) : Prop := ∃ c t fr, o = .cells c t fr ∧ t ∈ T
def AbT {β : Type} (T : List Nat) (B : Nat) (J : β → World → Prop) : Prop :=
  ∀ s W W' row, J s W → W.grownBy W' row → (∀ r, row = some r → B ≤ r ∧ ∃ o, W.heap[r]? = some o ∧ (o.isWalk = true ∨ isT T o)) → J s W'
def AbL {β : Type} (T : List Nat) (B : Nat) (J : β → World → Prop) : Prop :=
  ∀ s W W' row, J s W → W.grownBy W' row → (∀ r, row = some r → B ≤ r ∧ ∃ o, W.heap[r]? = some o ∧ (o.isCells = false ∨ isT T o)) → J s W'
def KeepT (T : List Nat) (W W' : World) : Prop := W.heap.size ≤ W'.heap.size ∧ ∀ (k : Nat) (c : Array Value) (t : Nat) (fr : Nat × Nat), W.heap[k]? = some (Obj.cells c t fr) → t ∈ T → W'.heap[k]? = some (Obj.cells c t fr)
theorem KeepT.refl (T : List Nat) (W : World) : KeepT T W W := ⟨Nat.le_refl _, fun _ _ _ _ h _ => h⟩
theorem KeepT.trans {T : List Nat} {A B C : World} (h : KeepT T A B) (k : KeepT T B C) : KeepT T A C := ⟨Nat.le_trans h.1 k.1, fun _ _ _ _ a b => k.2 _ _ _ _ (h.2 _ _ _ _ a b) b⟩
theorem KeepT.putObj (T : List Nat) {W : World} {l : Nat} {o : Obj} (o' : Obj) (hl : W.heap[l]? = some o) (ho : o.isCells = false) : KeepT T W (W.putObj l o') := by
  refine ⟨by simp [World.putObj], fun k c t fr hk _ => ?_⟩
  have hne : k ≠ l := by rintro rfl; rw [hl] at hk; injection hk with hk; subst hk; simp [Obj.isCells] at ho
  exact (World.putObj_heap_other hne).trans hk
theorem KeepT.grown {T : List Nat} {W W' : World} {row : Option Nat} (h : W.grownBy W' row) (hr : ∀ r, row = some r → ∃ o, W.heap[r]? = some o ∧ ¬ isT T o) : KeepT T W W' := by
  refine ⟨h.size, fun k c t fr hk ht => (h.block k (Array.getElem?_eq_some_iff.1 hk).1 fun e => ?_).trans hk⟩
  obtain ⟨o, ho, hn⟩ := hr k e.symm
  rw [hk] at ho
  injection ho with ho
  exact hn ⟨c, t, fr, ho.symm, ht⟩
theorem KeepT.below {T : List Nat} {W W' : World} (h : Below W.heap.size W W') : KeepT T W W' := ⟨h.size, fun k c t fr hk _ => (h.block k (Array.getElem?_eq_some_iff.1 hk).1).trans hk⟩
theorem KeepT.cell {T : List Nat} {W W' : World} (h : KeepT T W W') {a : Addr} {v : Value} (hc : W.cell? a = some v) (ht : ∀ (c : Array Value) (t : Nat) (fr : Nat × Nat), W.heap[a.block]? = some (Obj.cells c t fr) → t ∈ T) : W'.cell? a = some v := by
  unfold World.cell? at hc ⊢
  cases hb : W.heap[a.block]? with
  | none => rw [hb] at hc; cases hc
  | some o =>
    rw [hb] at hc
    cases o with
    | cells c t fr => rw [h.2 _ _ _ _ hb (ht _ _ _ hb)]; exact hc
    | _ => cases hc
def SeqAll {α : Type} (P : Program) (g : Nat) (lb : Array Value) (encs : α → Array Value) (T T' : List Nat) (Kx : World → Prop) (S : List α → Prop) (N : Nat) (w : World) : Prop :=
  ∀ (l : Nat) (J : List α → World → Prop) (W : World), Below w.heap.size w W → AbT T W.heap.size J → (∀ s W1, J s W1 → Kx W1) →
    (∀ pre x W1, J pre W1 → pre.length < N → (∃ t, S (pre ++ x :: t)) → YieldAt Fence.wide 1 P l (encs x) W1 fun e W' => e = .returned (.bool true) ∧ J (pre ++ [x]) W' ∧ KeepT T' W1 W') →
    J [] W →
    CallsIn Fence.wide 2 P g (#[.func (.yield l) #[] #[]] ++ lb) W fun e W' => (∃ v, e = .returned v) ∧ ∃ xs, S xs ∧ J xs W'
theorem AbL.putObj {β : Type} {T : List Nat} {B : Nat} {I : β → World → Prop} (h : AbL T B I) {s : β} {W : World} {l : Nat} {o : Obj} (o' : Obj) (hs : I s W) (hB : B ≤ l) (hl : W.heap[l]? = some o) (ho : o.isCells = false) : I s (W.putObj l o') :=
  h s W _ (some l) hs (grownBy_putObj' W l o') (fun r e => by cases e; exact ⟨hB, o, hl, .inl ho⟩)
theorem AbL.alloc {β : Type} {T : List Nat} {B : Nat} {I : β → World → Prop} (h : AbL T B I) {s : β} {W : World} (o : Obj) (hs : I s W) : I s (W.alloc o) :=
  h s W _ none hs (World.grownBy_alloc W o none) (fun r e => by cases e)
theorem grownBy_set1 (W : World) (b i : Nat) (v : Value) : W.grownBy (W.setCell ⟨b, i, none⟩ v) (some b) :=
  ⟨rfl, rfl, rfl, by simp [World.setCell], fun k hk hne => Below.heap_setCell W ⟨b, i, none⟩ v k (fun e => hne (by rw [e]))⟩
theorem AbT.set {β : Type} {T : List Nat} {B : Nat} {J : β → World → Prop} (h : AbT T B J) {s : β} {W : World} (hs : J s W) {D t : Nat} {c : Array Value} (hD : W.heap[D]? = some (.cells c t (0, 0))) (hB : B ≤ D) (ht : t ∈ T) (i : Nat) (v : Value) : J s (W.setCell ⟨D, i, none⟩ v) :=
  h s W _ (some D) hs (grownBy_set1 W D i v) (fun r e => by cases e; exact ⟨hB, _, hD, .inr ⟨c, t, _, rfl, ht⟩⟩)
theorem AbT.below {β : Type} {T : List Nat} {B : Nat} {J : β → World → Prop} (h : AbT T B J) {s : β} {W W' : World} (hs : J s W) (hb : Below W.heap.size W W') : J s W' := h s W W' none hs ⟨hb.os, hb.tape, hb.output, hb.size, fun k hk _ => hb.block k hk⟩ (fun r e => by cases e)
theorem AbT.alloc {β : Type} {T : List Nat} {B : Nat} {J : β → World → Prop} (h : AbT T B J) {s : β} {W : World} (o : Obj) (hs : J s W) : J s (W.alloc o) := h.below hs ((Below.refl _ _).alloc (Nat.le_refl _) o)
theorem AbT.drew {β : Type} {T : List Nat} {B : Nat} {J : β → World → Prop} (h : AbT T B J) {s : β} {W : World} (hs : J s W) : J s W.drew := h.below hs (Below.refl _ _).drew
theorem KeepT.set (T : List Nat) {W : World} {D t : Nat} {c : Array Value} (hD : W.heap[D]? = some (.cells c t (0, 0))) (ht : t ∉ T) (i : Nat) (v : Value) : KeepT T W (W.setCell ⟨D, i, none⟩ v) :=
  KeepT.grown (grownBy_set1 W D i v) (fun r e => by cases e; exact ⟨_, hD, fun ⟨c', t', fr, he, hm⟩ => by cases he; exact ht hm⟩)
theorem KeepT.alloc (T : List Nat) (W : World) (o : Obj) : KeepT T W (W.alloc o) := KeepT.below ((Below.refl _ _).alloc (Nat.le_refl _) o)
theorem KeepT.drew (T : List Nat) (W : World) : KeepT T W W.drew := KeepT.below (Below.refl _ _).drew
def endRoundT {α : Type} (B : Nat) (T' : List Nat) (I : List α → World → Prop) (xs : List α) (W : World) : Exit → Act → World → Prop
  | .normal, _, W' => KeepsFrom B W W' ∧ KeepT T' W W' ∧ I xs W'
  | _, _, _ => False
theorem rangeAll {α : Type} {P : Program} {g : Operand} {ps : Array Tmp} {assign body : Code} {Q : Exit → Act → World → Prop} {a : Act} {w : World}
    {gf : Nat} {lb : Array Value} (hg : a.eval g = .func (.func gf) #[] lb) (eg : ∀ args w, (callFunc gf args).run P w = .ok (.enter gf args) w)
    {encs : α → Array Value} {T T' : List Nat} {Kx : World → Prop} {S : List α → Prop} {N : Nat} {w0 : World} (hseq : SeqAll P gf lb encs T T' Kx S N w0)
    (hb0 : Below w0.heap.size w0 w) (hps : ∀ x, (encs x).size = ps.size)
    (I : List α → World → Prop) (hI : AbL T w.heap.size I) (hIK : ∀ s W1, I s W1 → Kx W1) (h0 : I [] w) (Ax : α → Act → World → Prop) (hAx : ∀ x a', AbL T w.heap.size (fun (_ : Unit) W => Ax x a' W))
    (hassign : ∀ (l : Nat) (pre : List α) (x : α) (W : World) (K : Act → World → Prop), I pre W → pre.length < N → (∃ t, S (pre ++ x :: t)) → (∀ a' W', KeepsFrom w.heap.size W W' → KeepT T' W W' → I pre W' → Ax x a' W' → K a' W') →
      assign.wpIn (Fence.wide.inRound l) 1 P (Exit.then K (fun _ _ _ => False)) { tmps := (ps.zip (encs x)).foldl (fun t (p, v) => t.setIfInBounds p v) a.tmps, defers := [] } W)
    (hbody : ∀ (l : Nat) (pre : List α) (x : α) (a' : Act) (W : World), w.heap.size ≤ l → I pre W → Ax x a' W → pre.length < N → (∃ t, S (pre ++ x :: t)) → body.wpIn (Fence.wide.inRound l) 1 P (endRoundT w.heap.size T' I (pre ++ [x]) W) a' W)
    (hdone : ∀ (D : Nat) (xs : List α) (W : World), w.heap.size ≤ D → S xs → I xs W → W.heap[D]? = some (.deferred (some [])) → Q .normal { a with defers := { target := .collected D, args := #[] } :: a.defers } W) :
    (Code.rangeFunc g ps assign body).wpIn Fence.wide 3 P Q a w := by
  refine wpIn_rangeFunc ?_
  intro fn hfn
  rw [show Fence.wide.round = none from rfl]
  obtain ⟨rec, hrec⟩ : ∃ rec : LoopState → Option Code → Loop, rec = fun st pe => { state := st, pending := pe, fn, tmps := a.tmps, params := ps, assign, body, defers := w.heap.size } := ⟨_, rfl⟩
  obtain ⟨W1, hW1⟩ : ∃ W1, (w.alloc (.deferred (some []))).alloc (.loop (rec .ready none)) = W1 := ⟨_, rfl⟩
  have hL1 : W1.heap[w.heap.size + 1]? = some (.loop (rec .ready none)) := by
    rw [← hW1]; have := World.alloc_heap_new (w.alloc (.deferred (some []))) (.loop (rec .ready none)); rwa [World.size_alloc] at this
  have hK1 : W1.heap[w.heap.size]? = some (.deferred (some [])) := by
    rw [← hW1]; exact (Below.heap_alloc _ _ _ (by simp)).trans (World.alloc_heap_new w _)
  have hI1 : I [] W1 := by rw [← hW1]; exact hI.alloc _ (hI.alloc _ h0)
  have hb1 : Below w0.heap.size w0 W1 := by
    rw [← hW1]; exact hb0.trans ((((Below.refl _ w).alloc (Nat.le_refl _) _).alloc (by simp) _).mono hb0.size)
  refine ⟨w.heap.size + 1, [{ target := .collected w.heap.size, args := #[] }], W1, { target := .fn (.func gf) lb, args := #[.func (.yield (w.heap.size + 1)) #[] #[]] }, W1, gf,
    #[.func (.yield (w.heap.size + 1)) #[] #[]] ++ lb, W1, ?_, ?_, ?_, ?_, fun _ => by omega, ?_⟩
  · rw [← hW1, hrec]; exact run_enterLoop_outer _ _ _ _ _
  · simp only [resolve, hg]
    simp [go_sem]
  · intro f' hf'; trivial
  · simp [invoke, go_sem, eg]
  · have keep : ∀ {A B : World} {row : Option Nat} {k : Nat} {o : Obj}, A.grownBy B row → (∀ r, row = some r → W1.heap.size ≤ r ∧ ∃ o : Obj, A.heap[r]? = some o ∧ (o.isWalk = true ∨ isT T o)) → A.heap[k]? = some o → o.isCells = false → o.isWalk = false → B.heap[k]? = some o := by
      intro A B row k o hg' hr hk hc hw
      refine (hg'.block k (Array.getElem?_eq_some_iff.1 hk).1 fun e => ?_).trans hk
      obtain ⟨_, o2, ho2, h2⟩ := hr k e.symm
      rw [hk] at ho2
      injection ho2 with ho2
      subst ho2
      rcases h2 with h2 | ⟨c, t, fr, rfl, _⟩
      · rw [hw] at h2; cases h2
      · simp [Obj.isCells] at hc
    have hnw : ∀ {A B : World} {row : Option Nat}, (∀ r, row = some r → W1.heap.size ≤ r ∧ ∃ o : Obj, A.heap[r]? = some o ∧ (o.isWalk = true ∨ isT T o)) → (∀ r, row = some r → w.heap.size ≤ r ∧ ∃ o : Obj, A.heap[r]? = some o ∧ (o.isCells = false ∨ isT T o)) :=
      fun hr r e => by
        obtain ⟨hB, o, ho, hw⟩ := hr r e
        exact ⟨by rw [← hW1] at hB; simp at hB; omega, o, ho, hw.imp Obj.not_cells_of_walk id⟩
    refine (hseq (w.heap.size + 1)
      (fun pre W => I pre W ∧ W.heap[w.heap.size + 1]? = some (.loop (rec .ready none)) ∧ W.heap[w.heap.size]? = some (.deferred (some [])))
      W1 hb1
      (fun s A B row hs hg' hr => ⟨hI s A B row hs.1 hg' (hnw (B := B) hr), keep hg' hr hs.2.1 rfl rfl, keep hg' hr hs.2.2 rfl rfl⟩)
      (fun s W1 h => hIK s W1 h.1) ?_ ⟨hI1, hL1, hK1⟩).mono ?_
    · rintro pre x W ⟨hi, hl, hk⟩ hlen hst
      have hlt : w.heap.size + 1 < W.heap.size := (Array.getElem?_eq_some_iff.1 hl).1
      have hy := run_yield (P := P) (args := encs x) hl (by rw [hrec]; exact hps x)
      rw [hrec] at hy
      refine ⟨fn, _, assign, body, hy, roundIn_of_wpIn hfn (hassign _ pre x W _ hi hlen hst ?_)⟩
      clear hy
      intro a' Wa hkfa hkpa hia hax
      replace hl := hkfa.same _ _ (by omega) hl rfl
      replace hk := hkfa.same _ _ (Nat.le_refl _) hk rfl
      replace hlt : w.heap.size + 1 < Wa.heap.size := (Array.getElem?_eq_some_iff.1 hl).1
      replace hi := hia
      clear hia
      revert hkpa hkfa
      generalize W = Wb
      intro hkfa hkpa
      obtain ⟨W, rfl⟩ : ∃ W, W = Wa := ⟨_, rfl⟩
      refine ⟨_, run_beginRound hl (by rw [hrec]), ?_⟩
      have hl2 : (W.putObj (w.heap.size + 1) (.loop { rec .ready none with state := .busy })).heap[w.heap.size + 1]? = some (.loop { rec .ready none with state := .busy }) := World.putObj_heap_same hlt
      have hk2 : (W.putObj (w.heap.size + 1) (.loop { rec .ready none with state := .busy })).heap[w.heap.size]? = some (.deferred (some [])) := (World.putObj_heap_other (by omega)).trans hk
      have hw2 : KeepT T' W (W.putObj (w.heap.size + 1) (.loop { rec .ready none with state := .busy })) := KeepT.putObj T' _ hl rfl
      refine wpIn_mono (hbody _ pre x a' _ (by omega) (hI.putObj _ hi (by omega) hl rfl) ((hAx x a').putObj (s := ()) _ hax (by omega) hl rfl) hlen hst) ?_
      have fin : ∀ (jump : Option Code) (W3 : World), KeepsFrom w.heap.size (W.putObj (w.heap.size + 1) (.loop { rec .ready none with state := .busy })) W3 →
          (Instr.endRound (w.heap.size + 1) jump).run P W3 = .ok (.bool jump.isNone) (W3.putObj (w.heap.size + 1) (.loop (rec (if jump.isNone then .ready else .done) jump))) ∧
          W3.heap[w.heap.size + 1]? = some (.loop { rec .ready none with state := .busy }) ∧
          (W3.putObj (w.heap.size + 1) (.loop (rec (if jump.isNone then .ready else .done) jump))).heap[w.heap.size + 1]? = some (.loop (rec (if jump.isNone then .ready else .done) jump)) ∧
          (W3.putObj (w.heap.size + 1) (.loop (rec (if jump.isNone then .ready else .done) jump))).heap[w.heap.size]? = some (.deferred (some [])) := fun jump W3 hk3 => by
        have hl3 := hk3.same _ _ (by omega) hl2 rfl
        have := run_endRound (P := P) jump hl3
        rw [hrec] at this ⊢
        exact ⟨this, by rw [hrec] at hl3; exact hl3, World.putObj_heap_same (Array.getElem?_eq_some_iff.1 hl3).1, (World.putObj_heap_other (by omega)).trans (hk3.same _ _ (Nat.le_refl _) hk2 rfl)⟩
      rintro e a3 W3 hp
      cases e with
      | normal =>
        obtain ⟨hk3, hkp3, hi3⟩ := hp
        obtain ⟨hr, hl3, hl4, hk4⟩ := fin none W3 hk3
        exact ⟨_, _, hr, rfl, ⟨hI.putObj _ hi3 (by omega) hl3 rfl, hl4, hk4⟩, hkpa.trans ((hw2.trans hkp3).trans (KeepT.putObj T' _ hl3 rfl))⟩
      | ret => exact hp.elim
      | exit id => exact hp.elim
      | goto t => exact hp.elim
      | panic ch => exact hp.elim
      | outgrown => exact hp.elim
    · rintro e W2 ⟨⟨v, rfl⟩, xs, hS, hi, hl, hk⟩
      exact ⟨none, _, by have := run_endLoop (P := P) hl (by rw [hrec]; simp); rw [hrec] at this; exact this, hdone _ xs _ (Nat.le_refl _) hS (hI.putObj _ hi (by omega) hl rfl) ((World.putObj_heap_other (by omega)).trans hk)⟩
section
variable {F : Fence} {nF : Nat} {P : Program} {ops : Array Oper} {rest : List Oper} {o : Oper} {a : Act} {Q : Exit → Act → World → Prop}
theorem R_push_in {α : Type} (d : Kd α) {w0 W : World} (base : Nat) (t e : TypeId) (z : Value) (bytes : Nat) {s x : Operand} (hgd : o.guard = none)
    (ho : o.op = .call { callee := .builtin .append, args := #[s, x], argTypes := #[t, t] })
    (ht : P.underlying t = some (.slice e)) (hinfo : (P.info? e).map (fun i => (i.zero, i.size, i.bytes)) = some (some z, d.sz, bytes)) (hz : z.cells.size = d.sz) (hs0 : 0 < d.sz) (hb0 : 0 < bytes)
    (v : Value) (xs : List α) (p : α) (cs : List Value) (hs : a.eval s = v) (hx : a.eval x = .slice (some ⟨W.heap.size, 0, none⟩) 1 1) (hp : d.M W base (fun k => some k ≠ v.ownBlock) p cs)
    (HO : Kd.R d e W base (fun _ => True) v xs) (HB : Below base w0 W) (hbase : base ≤ W.heap.size) (hl : (xs.length + 1) * bytes ≤ 140737488355328)
    (h : ∀ v1 w1, Kd.R d e w1 base (fun _ => True) v1 (xs ++ [p]) → Below base w0 w1 → W.grownBy w1 v.ownBlock → wpListIn F nF P ops Q rest (a.put o.dst v1) w1) :
    wpListIn F nF P ops Q (o :: rest) a (W.alloc (.cells cs.toArray e)) := by
  obtain ⟨h0, inner, hown, hr⟩ := HO
  obtain ⟨i0, hi, hzz⟩ := Option.map_eq_some_iff.1 hinfo
  simp only [Prod.mk.injEq] at hzz
  obtain ⟨hz0, hz1, hz2⟩ := hzz
  have hlen : xs.length + 1 ≤ 140737488355328 := Nat.le_trans (Nat.le_mul_of_pos_right _ hb0) hl
  have hys := d.K_len (d.K_of_M hp)
  refine wpListIn_append_own_at (w := W.alloc (.cells cs.toArray e)) hgd s x t ho base e i0 z d.sz bytes ht hi hz0 hz1 hz2 hz hs0 v xs.length inner hs (hown.alloc _) ⟨W.heap.size, 0, none⟩ 1 1 cs hx (by rw [hys]; simp)
    (by simpa using World.news_of_block (cs := cs.toArray) (t := e) (fr := (0, 0)) (heap_alloc_new W (.cells cs.toArray e))) (d.K_one (d.K_of_M hp)) (by simp only [maxLen]; omega) hl (by simp; omega) ?_
  intro v1 w1 hown1 hg _ hat
  have hg1 := World.grownBy.trans (World.grownBy_alloc W (.cells cs.toArray e) _) hg
  refine h v1 w1 (Kd.R_appended h0 hr hp (fun k hk => ⟨trivial, hk⟩) (fun _ _ => trivial) hown1 hg1 ?_) ((HB.alloc hbase _).grown hg (by simp; omega) (own_base hown)) hg1
  rcases hat with hat | hat
  · exact .inl hat
  · exact .inr ⟨_, hat, by simp⟩
end
theorem xblk_grown {T : List Nat} {W W' : World} {row : Option Nat} (h : W.grownBy W' row) {k t : Nat} {c : Array Value} {fr : Nat × Nat} (hk : W.heap[k]? = some (.cells c t fr)) (ht : t ∉ T)
    (hr : ∀ r, row = some r → ∃ o, W.heap[r]? = some o ∧ (o.isCells = false ∨ isT T o)) : W'.heap[k]? = some (.cells c t fr) := by
  refine (h.block k (Array.getElem?_eq_some_iff.1 hk).1 fun e => ?_).trans hk
  obtain ⟨o, ho, h2⟩ := hr k e.symm
  rw [hk] at ho
  injection ho with ho
  subst ho
  rcases h2 with h2 | ⟨_, _, _, he, hm⟩
  · cases h2
  · cases he; exact ht hm
theorem xR_grown {α : Type} {T : List Nat} {d : Kd α} {e base : Nat} {ok : Nat → Prop} {W W' : World} {row : Option Nat} {v : Value} {xs : List α} (h : Kd.R d e W base ok v xs) (hg : W.grownBy W' row) (hT : ∀ q, q ∈ e :: d.E → q ∉ T)
    (hr : ∀ r, row = some r → ∃ o, W.heap[r]? = some o ∧ (o.isCells = false ∨ isT T o)) : Kd.R d e W' base ok v xs :=
  Kd.R_mono (Kd.R_move (Kd.R_bound h) (fun k hk' => by obtain ⟨_, _, _, q, hq, cells, hc⟩ := hk'; rw [hc]; exact xblk_grown hg hc (hT q hq) hr)) (fun _ hk => hk.1)
end Go.Proofs.YtdplnbmioioniaaGreat.Pq
end
section
namespace Go.Proofs.YtdplnbmioioniaaGreat.Pq
open Go.RowKit Go.Shelf Go.Proofs.YtdplnbmioioniaaGreatW.PrintWords Go.Proofs.YtdplnbmioioniaaGreatW.PrintLast Go.Proofs.YtdplnbmioioniaaGreatW.PrintMore
set_option linter.unusedVariables false
set_option linter.unusedSimpArgs false
set_option maxHeartbeats 2000000
set_option maxRecDepth 100000
def swl (keep : Bool → Bool → Bool) : List En → Int → Int → Int → Bool → List XE
  | [], _, _, _, _ => []
  | x :: r, d0, d1, st, ins =>
    let e0 := if x.l = 0 then d0 + x.s else d0
    let e1 := if x.l = 0 then d1 else d1 + x.s
    if (match r with | y :: _ => y.a == x.a | [] => false) then swl keep r e0 e1 st ins
    else
      let now := keep (decide (0 < e0)) (decide (0 < e1))
      let st' := if now && !ins then x.a else st
      if !now && ins then ⟨st', x.a - st'⟩ :: swl keep r e0 e1 st' now else swl keep r e0 e1 st' now
def encX (x : XE) : Array Value := #[.agg #[.int .i64 x.f0, .int .i64 x.f1]]
theorem R_keepT {α : Type} {d : Kd α} {e base : Nat} {ok : Nat → Prop} {w w1 : World} {v : Value} {xs : List α} {T : List Nat} (h : Kd.R d e w base ok v xs) (hk : KeepT T w w1) (hT : ∀ q, q ∈ e :: d.E → q ∈ T) : Kd.R d e w1 base ok v xs :=
  Kd.R_mono (Kd.R_move (Kd.R_bound h) (fun k hk' => by obtain ⟨_, _, _, q, hq, cells, hc⟩ := hk'; rw [hc]; exact hk.2 _ _ _ _ hc (hT q hq))) (fun _ hk => hk.1)
theorem kEn_E : kEn.E = [] := rfl
def KeepFn (kf : Nat) (keep : Bool → Bool → Bool) : Prop := (∀ args w, (callFunc kf args).run Tryz.prog w = .ok (.enter kf args) w) ∧ ∀ (a b : Bool) (W : World), Calls Tryz.prog kf #[.bool a, .bool b] W fun e w' => e = .returned (.bool (keep a b)) ∧ W = w'
theorem extent_Union_1.calls (a b : Bool) (W : World) : Calls Tryz.prog 96 #[.bool a, .bool b] W fun e w' => e = .returned (.bool (a || b)) ∧ W = w' := by
  cases a
  · go_enter Tryz.func96, Tryz.ntmps96
    go_wp2
    go_ret
    exact ⟨rfl, rfl⟩
  · go_enter Tryz.func96, Tryz.ntmps96
    go_wp2
    go_ret
    exact ⟨rfl, rfl⟩
theorem keepUnion : KeepFn 96 (fun a b => a || b) := ⟨enters_of Tryz.func96 (by kernel_rfl) rfl, extent_Union_1.calls⟩
theorem two_rows {α : Type} {d : Kd α} {e t : Nat} {W : World} {A B : Option Addr} {ca cb : Nat} {xs ys : List α} (hra : Kd.C d W A xs.length xs) (hca : xs.length ≤ ca) (hrb : Kd.C d W B ys.length ys) (hcb : ys.length ≤ cb) :
    Kd.C (Kd.slice e d) (W.alloc (.cells #[.slice A xs.length ca, .slice B ys.length cb] t)) (some ⟨W.heap.size, 0, none⟩) 2 [xs, ys] := by
  refine ⟨rfl, by omega, fun _ => ⟨_, rfl, fun j p hj => ?_⟩⟩
  match j, hj with
  | 0, hj =>
    obtain rfl : xs = p := by simpa using hj
    refine ⟨[.slice A xs.length ca], rfl, ⟨A, ca, rfl, hca, Kd.C_alloc hra _⟩, fun i u hu => ?_⟩
    match i, hu with
    | 0, hu => simpa [Kd.slice, add_plain] using hu
    | i + 1, hu => simp at hu
  | 1, hj =>
    obtain rfl : ys = p := by simpa using hj
    refine ⟨[.slice B ys.length cb], rfl, ⟨B, cb, rfl, hcb, Kd.C_alloc hrb _⟩, fun i u hu => ?_⟩
    match i, hu with
    | 0, hu => simpa [Kd.slice, add_plain] using hu
    | i + 1, hu => simp at hu
  | j + 2, hj => simp at hj
theorem endsOf_two (xs ys : List XE) : endsOf 0 [xs, ys] = endsL 0 xs ++ endsL 1 ys := by simp [endsOf]
theorem C_at_en {w : World} {A : Option Addr} {n : Nat} {xs : List En} (h : Kd.C kEn w A n xs) (i : Nat) (hi : i < n) :
    ∃ ad, A = some ad ∧ w.cell? (ad.add (i * 3)) = some (.int .i64 (xs.getD i default).a) ∧ w.cell? ⟨(ad.add (i * 3)).block, (ad.add (i * 3)).off + 1, none⟩ = some (.int .i64 (xs.getD i default).l) ∧ w.cell? ⟨(ad.add (i * 3)).block, (ad.add (i * 3)).off + 2, none⟩ = some (.int .i64 (xs.getD i default).s) := by
  obtain ⟨ad, c, h1, h2, h3, h4⟩ := xC_at default h i hi
  obtain rfl := kEn_K h3
  exact ⟨ad, h1, h4 0 _ rfl, xcell_at (h4 1 _ rfl) (by omega), xcell_at (h4 2 _ rfl) (by omega)⟩
def okEn (z : En) : Prop := (z.l = 0 ∨ z.l = 1) ∧ (z.s = 1 ∨ z.s = -1) ∧ 0 ≤ z.a ∧ z.a ≤ 4096
theorem endsX_ok (i : Int) (hi : i = 0 ∨ i = 1) (x : XE) : ∀ z ∈ endsX i x, okEn z := by
  intro z hz
  unfold endsX at hz
  split at hz
  · rename_i h
    unfold wi at h hz
    by_cases hc : x.f1 ≤ 0
    · rw [if_pos hc] at h; cases h
    · rw [if_neg hc] at h hz
      simp only [decide_eq_true_eq] at h
      have h1 : 0 ≤ mx x.f0 0 := by unfold mx; split <;> omega
      have h2 : mn (x.f0 + x.f1) 4096 ≤ 4096 := by unfold mn; split <;> omega
      simp only [List.mem_cons, List.not_mem_nil, or_false] at hz
      rcases hz with rfl | rfl
      · exact ⟨hi, .inl rfl, h1, by show mx x.f0 0 ≤ 4096; omega⟩
      · exact ⟨hi, .inr rfl, by show 0 ≤ mn (x.f0 + x.f1) 4096; omega, h2⟩
  · cases hz
theorem endsL_ok (i : Int) (hi : i = 0 ∨ i = 1) (l : List XE) : ∀ z ∈ endsL i l, okEn z := by
  intro z hz
  obtain ⟨x, _, h⟩ := List.mem_flatMap.1 hz
  exact endsX_ok i hi x z h
theorem ends_ok (xs ys : List XE) : ∀ z ∈ endsOf 0 [xs, ys], okEn z := by
  intro z hz
  rw [endsOf_two] at hz
  rcases List.mem_append.1 hz with h | h
  · exact endsL_ok 0 (.inl rfl) xs z h
  · exact endsL_ok 1 (.inr rfl) ys z h
theorem swl_drop (keep : Bool → Bool → Bool) (zs : List En) (k : Nat) (hk : k < zs.length) (d0 d1 st : Int) (ins : Bool) : swl keep (zs.drop k) d0 d1 st ins =
    (let x := zs.getD k default
    let e0 := if x.l = 0 then d0 + x.s else d0
    let e1 := if x.l = 0 then d1 else d1 + x.s
    if k + 1 < zs.length ∧ (zs.getD (k + 1) default).a = x.a then swl keep (zs.drop (k + 1)) e0 e1 st ins
    else
      let now := keep (decide (0 < e0)) (decide (0 < e1))
      let st' := if now && !ins then x.a else st
      if !now && ins then ⟨st', x.a - st'⟩ :: swl keep (zs.drop (k + 1)) e0 e1 st' now else swl keep (zs.drop (k + 1)) e0 e1 st' now) := by
  rw [List.drop_eq_getElem_cons hk, swl.eq_def, List.getD_eq_getElem?_getD, List.getElem?_eq_getElem hk]
  dsimp only [Option.getD_some]
  have key : ((match zs.drop (k + 1) with | y :: _ => y.a == zs[k].a | [] => false) = true) ↔ (k + 1 < zs.length ∧ (zs.getD (k + 1) default).a = zs[k].a) := by
    by_cases h : k + 1 < zs.length
    · rw [List.drop_eq_getElem_cons h, List.getD_eq_getElem?_getD, List.getElem?_eq_getElem h]
      simp [h]
    · rw [List.drop_eq_nil_of_le (by omega)]
      simp [h]
  simp only [key]
theorem sweep_all (kf : Nat) (keep : Bool → Bool → Bool) (hkf : KeepFn kf keep) (Ba Bb Bk : Nat) (A B : Option Addr) (ca cb : Nat) (xs ys : List XE) (w : World)
    (ha : w.cell? ⟨Ba, 0, none⟩ = some (.slice A xs.length ca)) (hb : w.cell? ⟨Bb, 0, none⟩ = some (.slice B ys.length cb)) (hkt : w.heap[Bk]? = some (.cells #[.func (.func kf) #[] #[]] 124 (0, 0)))
    (hra : Kd.C kXE w A xs.length xs) (hca : xs.length ≤ ca) (hrb : Kd.C kXE w B ys.length ys) (hcb : ys.length ≤ cb) (hox : ∀ x ∈ xs, okX x) (hoy : ∀ x ∈ ys, okX x) (hl : xs.length + ys.length ≤ 262144) :
    SeqAll Tryz.prog 94 #[.pointer (some ⟨Ba, 0, none⟩), .pointer (some ⟨Bb, 0, none⟩), .pointer (some ⟨Bk, 0, none⟩)] encX [140] [140, 142, 124] (fun _ => True) (fun l => ∃ zs, zs.Perm (endsOf 0 [xs, ys]) ∧ SortedEn zs ∧ l = swl keep zs 0 0 0 false) 1048576 w := by
  intro l J W hW hJ _ hY h0
  have ha' := pw_cell_below hW ha
  have hb' := pw_cell_below hW hb
  refine callsIn_of_wp Tryz.func94 rfl trivial ?_ rfl
  simp only [Tryz.ntmps94, List.size_toArray, List.length_cons, List.length_nil, Nat.reduceAdd, Nat.reduceSub, Array.replicate_succ, Array.replicate_zero, List.push_toArray, List.append_toArray, List.nil_append, List.cons_append]
  have hends := extent_ends.calls (some ⟨W.heap.size, 0, none⟩) 2 [xs, ys] (W.alloc (.cells #[.slice A xs.length ca, .slice B ys.length cb] 57)) (two_rows (C_step hra hW) hca (C_step hrb hW) hcb) (by simp)
    (by intro l hl x hx; simp at hl; rcases hl with rfl | rfl; exact hox x hx; exact hoy x hx) (by rw [endsOf_two, List.length_append]; have := endsL_len 0 xs; have := endsL_len 1 ys; omega)
  gi_wp2_with (refine ⟨trivial, ?_⟩; gi_at_call 95; refine (callsIn_wide.2 hends).mono ?_; rintro e w1 ⟨v, zs, rfl, hR, hP, hS, hB⟩; obtain ⟨A1, c1, rfl, hc1, hC1⟩ := Kd.R_reads hR; have n0 := Aside0.mk hc1; clear hC1 hc1; have n1 := Aside0.mk hR; have n2 := Aside0.mk hP; have n3 := Aside0.mk hS; have n4 := Aside0.mk (below_then (below_alloc (Below.refl _ _) _) (by simp) hB); clear hR hP hS hB)
  have hzl := Aside0.mk (show zs.length ≤ 524288 by rw [n2.out.length_eq, endsOf_two, List.length_append]; have := endsL_len 0 xs; have := endsL_len 1 ys; omega)
  have hzo := Aside0.mk (show ∀ z ∈ zs, okEn z from fun z hz => ends_ok xs ys z (n2.out.mem_iff.1 hz))
  have hJ1 := Aside0.mk (hJ.alloc (.cells #[.int .i64 0, .int .i64 0] 140) (hJ.below h0 n4.out))
  have hBk : Bk < W.heap.size := Nat.lt_of_lt_of_le (blk_lt hkt) hW.size
  have hkt' := Aside0.mk ((n4.out.block _ hBk).trans ((hW.block _ (blk_lt hkt)).trans hkt))
  have HY := Aside0.mk hY
  have HJ := Aside0.mk hJ
  have HF := hkf.1
  have HK := Aside0.mk hkf.2
  clear hY hJ h0 hkt ha ha' hb hb' hra hrb hox hoy hends hkf
  have hzm : zs.length ≤ 9223372036854775807 := by have := hzl.out; omega
  have hw1 : W.heap.size ≤ w1.heap.size := n4.out.size
  gi_wp2
  gi_loopw [7, 8, 18] (fun s7 s8 s18 wr => ∃ (kk : Nat) (pre : List XE) (d0 d1 st : Int) (ins : Bool), s7 = .int .i64 st ∧ s8 = .bool ins ∧ s18 = .int .i64 kk ∧ kk ≤ zs.length ∧ Aside0 (pre ++ swl keep (zs.drop kk) d0 d1 st ins = swl keep zs 0 0 0 false) ∧ Aside0 (J pre wr) ∧ Aside0 (wr.heap[w1.heap.size]? = some (.cells #[.int .i64 d0, .int .i64 d1] 140 (0, 0))) ∧ Aside0 (Kd.R kEn 142 wr (W.heap.size + 1) (fun _ => True) (.slice A1 zs.length c1) zs) ∧ Aside0 (wr.heap[Bk]? = some (.cells #[.func (.func kf) #[] #[]] 124 (0, 0))) ∧ Aside0 (-kk ≤ d0 ∧ d0 ≤ kk ∧ -kk ≤ d1 ∧ d1 ≤ kk ∧ 0 ≤ st ∧ st ≤ 4096 ∧ pre.length ≤ kk))
    (fun _ _ s18 _ => zs.length - (intOf s18).toNat)
  case atStart =>
    exact ⟨0, [], 0, 0, 0, false, rfl, rfl, rfl, Nat.zero_le _, ⟨rfl⟩, hJ1, ⟨heap_alloc_new w1 _⟩, ⟨Kd.R_alloc (by simpa using n1.out) _⟩, ⟨(Below.heap_alloc _ _ _ (blk_lt hkt'.out)).trans hkt'.out⟩, ⟨by simp⟩⟩
  case round =>
    obtain ⟨kk, pre, d0, d1, st, ins, rfl, rfl, rfl, hkk, HE, HJ2, HD, HR, HCt, HI⟩ := hrel
    by_cases hlt : kk < zs.length
    · have hdrop := Aside0.mk (swl_drop keep zs kk hlt d0 d1 st ins)
      obtain ⟨_, _, hC⟩ := Kd.R_reads' HR.out
      obtain ⟨ad, rfl, hc0, hc1, hc2⟩ := C_at_en hC kk hlt
      have hx := Aside0.mk (hzo.out (zs.getD kk default) (by rw [List.getD_eq_getElem?_getD, List.getElem?_eq_getElem hlt]; exact List.getElem_mem hlt))
      have hD0 : wr.cell? ⟨w1.heap.size, 0, none⟩ = some (.int .i64 d0) := (blk_cell HD.out 0).trans rfl
      have hD1 : wr.cell? ⟨w1.heap.size, 1, none⟩ = some (.int .i64 d1) := (blk_cell HD.out 1).trans rfl
      have hf0 : wr.frozen? ⟨w1.heap.size, 0, none⟩ = false := blk_frozen HD.out 0
      have hf1 : wr.frozen? ⟨w1.heap.size, 1, none⟩ = false := blk_frozen HD.out 1
      have hDlt : w1.heap.size < wr.heap.size := blk_lt HD.out
      generalize zs.getD kk default = x at hdrop hx hc0 hc1 hc2
      obtain ⟨xa, xl, xv⟩ := x
      dsimp only at hc0 hc1 hc2
      have hxv : -1 ≤ xv ∧ xv ≤ 1 := by have := hx.out.2.1; dsimp only at this; omega
      obtain ⟨hxv1, hxv2⟩ := hxv
      have hxa : 0 ≤ xa ∧ xa ≤ 4096 := hx.out.2.2
      obtain ⟨hxa1, hxa2⟩ := hxa
      have hI := HI.out
      obtain ⟨hI1, hI2, hI3, hI4, hI5, hI6, hI7⟩ := hI
      have hzl' := hzl.out
      gi_upto_region 6 with (fail)
      gi_cut [] from 23 (fun wc => ∃ e0 e1 : Int, Aside0 (e0 = (if xl = 0 then d0 + xv else d0) ∧ e1 = (if xl = 0 then d1 else d1 + xv)) ∧ Aside0 (J pre wc) ∧ Aside0 (wc.heap[w1.heap.size]? = some (.cells #[.int .i64 e0, .int .i64 e1] 140 (0, 0))) ∧ Aside0 (Kd.R kEn 142 wc (W.heap.size + 1) (fun _ => True) (.slice (some ad) zs.length c1) zs) ∧ Aside0 (wc.heap[Bk]? = some (.cells #[.func (.func kf) #[] #[]] 124 (0, 0))) ∧ Aside0 (wc.heap[wr.heap.size]? = some (.cells #[.int .i64 xa, .int .i64 xl, .int .i64 xv] 142 (0, 0))))
      case first =>
        have hw0 : -9223372036854775808 ≤ d0 + xv := by omega
        have hw2 : d0 + xv ≤ 9223372036854775807 := by omega
        have hw3 : -9223372036854775808 ≤ d1 + xv := by omega
        have hw4 : d1 + xv ≤ 9223372036854775807 := by omega
        have hDr : w1.heap.size < wr.heap.size := hDlt
        rcases hx.out.1 with hl0 | hl0
        · dsimp only at hl0
          subst hl0
          gi_region
          all_goals
            gi_wp2
            gi_meet
            case rel =>
              refine ⟨d0 + xv, d1, ⟨rfl, rfl⟩, ⟨HJ.out.drew (HJ.out.alloc _ (HJ.out.set HJ2.out HD.out hw1 (by simp) 0 _))⟩, ⟨?_⟩, ⟨?_⟩, ⟨?_⟩, ⟨?_⟩⟩
              · exact (Below.heap_alloc _ _ _ (by simpa using hDr)).trans (by simpa using blk_set HD.out 0 (.int .i64 (d0 + xv)))
              · exact Kd.R_drew (Kd.R_alloc (R_keepT (T := [142]) HR.out (KeepT.set _ HD.out (by decide) 0 _) (by simp [kEn_E])) _)
              · exact (Below.heap_alloc _ _ _ (by simpa using blk_lt HCt.out)).trans ((Below.heap_setCell _ _ _ _ (show Bk ≠ w1.heap.size by omega)).trans HCt.out)
              · have h9 := heap_alloc_new (wr.setCell ⟨w1.heap.size, 0, none⟩ (.int .i64 (d0 + xv))) (.cells #[.int .i64 xa, .int .i64 0, .int .i64 xv] 142 (0, 0))
                rw [show (wr.setCell ⟨w1.heap.size, 0, none⟩ (.int .i64 (d0 + xv))).heap.size = wr.heap.size by simp] at h9
                exact h9
        · dsimp only at hl0
          subst hl0
          gi_region
          all_goals
            gi_wp2
            gi_meet
            case rel =>
              refine ⟨d0, d1 + xv, ⟨rfl, rfl⟩, ⟨HJ.out.drew (HJ.out.alloc _ (HJ.out.set HJ2.out HD.out hw1 (by simp) 1 _))⟩, ⟨?_⟩, ⟨?_⟩, ⟨?_⟩, ⟨?_⟩⟩
              · exact (Below.heap_alloc _ _ _ (by simpa using hDr)).trans (by simpa using blk_set HD.out 1 (.int .i64 (d1 + xv)))
              · exact Kd.R_drew (Kd.R_alloc (R_keepT (T := [142]) HR.out (KeepT.set _ HD.out (by decide) 1 _) (by simp [kEn_E])) _)
              · exact (Below.heap_alloc _ _ _ (by simpa using blk_lt HCt.out)).trans ((Below.heap_setCell _ _ _ _ (show Bk ≠ w1.heap.size by omega)).trans HCt.out)
              · have h9 := heap_alloc_new (wr.setCell ⟨w1.heap.size, 1, none⟩ (.int .i64 (d1 + xv))) (.cells #[.int .i64 xa, .int .i64 1, .int .i64 xv] 142 (0, 0))
                rw [show (wr.setCell ⟨w1.heap.size, 1, none⟩ (.int .i64 (d1 + xv))).heap.size = wr.heap.size by simp] at h9
                exact h9
      case rest =>
        obtain ⟨e0, e1, HM, HJ3, HD3, HR3, HCt3, HX3⟩ := hcut
        obtain ⟨_, _, hC3⟩ := Kd.R_reads' HR3.out
        have hX0 : wc.cell? ⟨wr.heap.size, 0, none⟩ = some (.int .i64 xa) := (blk_cell HX3.out 0).trans rfl
        have hE0 : wc.cell? ⟨w1.heap.size, 0, none⟩ = some (.int .i64 e0) := (blk_cell HD3.out 0).trans rfl
        have hE1 : wc.cell? ⟨w1.heap.size, 1, none⟩ = some (.int .i64 e1) := (blk_cell HD3.out 1).trans rfl
        have hKc : wc.cell? ⟨Bk, 0, none⟩ = some (.func (.func kf) #[] #[]) := (blk_cell HCt3.out 0).trans rfl
        have hM1 : e0 = d0 ∨ e0 = d0 + xv := by have := HM.out.1; split at this; exact .inr this; exact .inl this
        have hM2 : e1 = d1 ∨ e1 = d1 + xv := by have := HM.out.2; split at this; exact .inl this; exact .inr this
        have hMd := Aside0.mk (show swl keep (zs.drop kk) d0 d1 st ins = (if kk + 1 < zs.length ∧ (zs.getD (kk + 1) default).a = xa then swl keep (zs.drop (kk + 1)) e0 e1 st ins
          else
            let now := keep (decide (0 < e0)) (decide (0 < e1))
            let st' := if now && !ins then xa else st
            if !now && ins then ⟨st', xa - st'⟩ :: swl keep (zs.drop (kk + 1)) e0 e1 st' now else swl keep (zs.drop (kk + 1)) e0 e1 st' now) by rw [hdrop.out]; dsimp only; rw [← HM.out.1, ← HM.out.2])
        clear hdrop
        gi_upto_region 7 with (fail)
        gi_cut [46] from 31 (fun s46 wx => (s46 = .bool (decide (kk + 1 < zs.length ∧ (zs.getD (kk + 1) default).a = xa))) ∧ ∃ n, wx = wc.drewN n)
        case first =>
          by_cases hn1 : kk + 1 < zs.length
          · have t1 : decide ((kk : Int) + 1 < (zs.length : Int)) = true := by simp; omega
            have t2 : (kk : Int) + 1 < (zs.length : Int) := by omega
            obtain ⟨_, hadd, hc3, _, _⟩ := C_at_en hC3 (kk + 1) hn1
            cases hadd
            generalize hy : (zs.getD (kk + 1) default).a = ya at hc3
            have hc4 : wc.cell? (ad.add (((kk : Int) + 1).toNat * 3)) = some (.int .i64 ya) := by rw [show ((kk : Int) + 1).toNat = kk + 1 by omega]; exact hc3
            gi_quiet (fail)
            all_goals
              gi_wp2
              gi_meet
              case rel => exact ⟨by rw [hy]; simp only [hn1, true_and]; rfl, _, rfl⟩
          · have t1 : decide ((kk : Int) + 1 < (zs.length : Int)) = false := by simp; omega
            gi_quiet (fail)
            all_goals
              gi_wp2
              gi_meet
              case rel => exact ⟨by simp [hn1], _, rfl⟩
        case rest =>
          obtain ⟨rfl, n7, rfl⟩ := hcut
          by_cases hn : kk + 1 < zs.length ∧ (zs.getD (kk + 1) default).a = xa
          · have hn0 : decide (kk + 1 < zs.length ∧ (zs.getD (kk + 1) default).a = xa) = true := decide_eq_true hn
            rw [if_pos hn] at hMd
            gi_wp2
            go_roundw
            case rel => exact ⟨kk + 1, pre, e0, e1, st, ins, rfl, rfl, by simp, by omega, ⟨by rw [← hMd.out]; exact HE.out⟩, ⟨HJ.out.below HJ3.out (pw_below_drewN (Below.refl _ _) _)⟩, ⟨HD3.out⟩, ⟨Kd.R_drewN HR3.out _⟩, ⟨HCt3.out⟩, ⟨by omega⟩⟩
            case measure => simp [intOf]; omega
          · have hn0 : decide (kk + 1 < zs.length ∧ (zs.getD (kk + 1) default).a = xa) = false := decide_eq_false hn
            rw [if_neg hn] at hMd
            dsimp only at hMd
            generalize hnow : keep (decide (0 < e0)) (decide (0 < e1)) = now at hMd
            have HKr := Aside0.mk (show ∀ W, Calls Tryz.prog kf #[.bool (decide (0 < e0)), .bool (decide (0 < e1))] W fun e w' => e = .returned (.bool now) ∧ W = w' from fun W => hnow ▸ HK.out _ _ W)
            have hpl : pre.length < 1048576 := by omega
            have hwa : -9223372036854775808 ≤ xa - st := by omega
            have hwb : xa - st ≤ 9223372036854775807 := by omega
            cases now <;> cases ins
            · gi_wp2_with (refine ⟨trivial, ?_⟩; refine (callsIn_wide.2 (HKr.out _)).mono ?_; rintro e W2 ⟨rfl, rfl⟩)
              refine ⟨(by intro f h; cases h), ?_⟩
              gi_wp2
              go_roundw
              case rel => exact ⟨kk + 1, pre, e0, e1, st, false, rfl, rfl, by simp, by omega, ⟨by have h := HE.out; rw [hMd.out] at h; simpa using h⟩, ⟨HJ.out.below HJ3.out (pw_below_drewN (Below.refl _ _) _)⟩, ⟨HD3.out⟩, ⟨Kd.R_drewN HR3.out _⟩, ⟨HCt3.out⟩, ⟨by omega⟩⟩
              case measure => simp [intOf]; omega
            · obtain ⟨fn, tmps, assign, body, hy, hR⟩ := HY.out pre ⟨st, xa - st⟩ (wc.drewN n7) (HJ.out.below HJ3.out (pw_below_drewN (Below.refl _ _) _)) hpl ⟨swl keep (zs.drop (kk + 1)) e0 e1 st false, zs, n2.out, n3.out, by have h := HE.out; rw [hMd.out] at h; simpa using h⟩
              dsimp only [encX] at hy
              gi_wp2_with (refine ⟨trivial, ?_⟩; refine (callsIn_wide.2 (HKr.out _)).mono ?_; rintro e W2 ⟨rfl, rfl⟩)
              refine hR.mono ?_
              rintro e W3 ⟨rfl, hJ4, hk4⟩
              gi_wp2
              go_roundw
              case rel => exact ⟨kk + 1, pre ++ [⟨st, xa - st⟩], e0, e1, st, false, rfl, rfl, by simp, by omega, ⟨by have h := HE.out; rw [hMd.out] at h; simpa using h⟩, ⟨hJ4⟩, ⟨hk4.2 _ _ _ _ HD3.out (by simp)⟩, ⟨R_keepT (Kd.R_drewN HR3.out _) hk4 (by simp [kEn_E])⟩, ⟨hk4.2 _ _ _ _ HCt3.out (by simp)⟩, ⟨by simp only [List.length_append, List.length_singleton]; omega⟩⟩
              case measure => simp [intOf]; omega
            · gi_wp2_with (refine ⟨trivial, ?_⟩; refine (callsIn_wide.2 (HKr.out _)).mono ?_; rintro e W2 ⟨rfl, rfl⟩)
              refine ⟨(by intro f h; cases h), ?_⟩
              gi_wp2
              go_roundw
              case rel => exact ⟨kk + 1, pre, e0, e1, xa, true, rfl, rfl, by simp, by omega, ⟨by have h := HE.out; rw [hMd.out] at h; simpa using h⟩, ⟨HJ.out.below HJ3.out (pw_below_drewN (Below.refl _ _) _)⟩, ⟨HD3.out⟩, ⟨Kd.R_drewN HR3.out _⟩, ⟨HCt3.out⟩, ⟨by omega⟩⟩
              case measure => simp [intOf]; omega
            · gi_wp2_with (refine ⟨trivial, ?_⟩; refine (callsIn_wide.2 (HKr.out _)).mono ?_; rintro e W2 ⟨rfl, rfl⟩)
              refine ⟨(by intro f h; cases h), ?_⟩
              gi_wp2
              go_roundw
              case rel => exact ⟨kk + 1, pre, e0, e1, st, true, rfl, rfl, by simp, by omega, ⟨by have h := HE.out; rw [hMd.out] at h; simpa using h⟩, ⟨HJ.out.below HJ3.out (pw_below_drewN (Below.refl _ _) _)⟩, ⟨HD3.out⟩, ⟨Kd.R_drewN HR3.out _⟩, ⟨HCt3.out⟩, ⟨by omega⟩⟩
              case measure => simp [intOf]; omega
    · have hke : kk = zs.length := by omega
      subst hke
      gi_wp2
      go_end0
      exact ⟨⟨_, rfl⟩, pre, ⟨zs, n2.out, n3.out, by have h := HE.out; rw [List.drop_length] at h; simpa [swl] using h⟩, HJ2.out⟩
end Go.Proofs.YtdplnbmioioniaaGreat.Pq
end
section
namespace Go.Proofs.YtdplnbmioioniaaGreat.Pq
open Go.RowKit Go.Shelf Go.Proofs.YtdplnbmioioniaaGreatW.PrintWords Go.Proofs.YtdplnbmioioniaaGreatW.PrintLast Go.Proofs.YtdplnbmioioniaaGreatW.PrintMore
set_option linter.unusedVariables false
set_option linter.unusedSimpArgs false
set_option maxHeartbeats 2000000
set_option maxRecDepth 100000
theorem infoX : (Tryz.prog.info? 61).map (fun i => (i.zero, i.size, i.bytes)) = some (some (.agg #[.int .i64 0, .int .i64 0]), 2, 16) := by kernel_rfl
def SeqAt (w0 : World) (B : Nat) (pre : List XE) (W : World) : Prop :=
  ∃ v, W.heap[B]? = some (.cells #[v] 57 (0, 0)) ∧ Kd.R kXE 61 W w0.heap.size (fun _ => True) v pre ∧ Below w0.heap.size w0 W
theorem seqAt_abides (w0 : World) (B B' : Nat) (T : List Nat) (h1 : 57 ∉ T) (h2 : 61 ∉ T) (hB : w0.heap.size ≤ B') : AbL T B' (SeqAt w0 B) := by
  rintro s W W' row ⟨v, hv, hr, hb⟩ hg hrow
  have hrow' : ∀ r, row = some r → ∃ o, W.heap[r]? = some o ∧ (o.isCells = false ∨ isT T o) := fun r e => (hrow r e).2
  exact ⟨v, xblk_grown hg hv h1 hrow', xR_grown hr hg (fun q hq => by simp [show kXE.E = [] from rfl] at hq; subst hq; exact h2) hrow', hb.grown hg hb.size (fun k e => Nat.le_trans hB (hrow k e).1)⟩
def RetSeq (S : List XE → Prop) (w : World) (e : Ending) (w' : World) : Prop := ∃ v xs, e = .returned v ∧ S xs ∧ Kd.R kXE 61 w' w.heap.size (fun _ => True) v xs ∧ Below w.heap.size w w'
theorem appendSeq.calls (g : Nat) (lb : Array Value) (eg : ∀ args w, (callFunc g args).run Tryz.prog w = .ok (.enter g args) w) (T T' : List Nat) (S : List XE → Prop) (w : World)
    (h1 : 57 ∉ T) (h2 : 61 ∉ T) (h3 : 57 ∉ T') (h4 : 61 ∉ T') (hseq : SeqAll Tryz.prog g lb encX T T' (fun _ => True) S 1048576 w) :
    Calls Tryz.prog 93 #[.slice none 0 0, .func (.func g) #[] lb] w (RetSeq S w) := by
  refine (callsIn_wide (n := 3)).1 ?_
  refine callsIn_of_wp_marks Tryz.func93 rfl trivial ?_ rfl
  simp only [Tryz.ntmps93, List.size_toArray, List.length_cons, List.length_nil, Nat.reduceAdd, Nat.reduceSub, Array.replicate_succ, Array.replicate_zero, List.push_toArray, List.append_toArray, List.nil_append, List.cons_append]
  gi_wp2
  refine rangeAll (gf := g) (lb := lb) rfl eg (w0 := w) hseq ((Below.refl _ _).alloc (Nat.le_refl _) _) (fun _ => rfl) (SeqAt w w.heap.size) (seqAt_abides w _ _ T h1 h2 (by simp)) (fun _ _ _ => trivial) ⟨.slice none 0 0, heap_alloc_new w _, Kd.R_nil _ _ _ _ _, (Below.refl _ _).alloc (Nat.le_refl _) _⟩
    (fun x a' W => ∃ q, w.heap.size < q ∧ W.heap[q]? = some (.cells #[.int .i64 x.f0, .int .i64 x.f1] 61 (0, 0)) ∧ a' = { tmps := #[.slice none 0 0, .func (.func g) #[] lb, .pointer (some ⟨w.heap.size, 0, none⟩), undef, .slice none 0 0, .pointer (some ⟨q, 0, none⟩), .func (.func g) #[] lb, .agg #[.int .i64 x.f0, .int .i64 x.f1], undef, undef, undef, undef, undef], defers := [] }) ?_ ?_ ?_ ?_
  · rintro x a' s W W' row ⟨q, hq, hc, ha⟩ hg hrow
    exact ⟨q, hq, xblk_grown hg hc h2 (fun r e => (hrow r e).2), ha⟩
  · rintro l pre x W K ⟨v, hv, hr, hb⟩ hlen _ hK
    rw [show ((#[7] : Array Tmp).zip (encX x)) = #[(7, .agg #[.int .i64 x.f0, .int .i64 x.f1])] by simp [encX]]
    simp only [List.foldl_toArray', List.foldl_cons, List.foldl_nil, List.size_toArray, List.length_cons, List.length_nil, List.setIfInBounds_toArray, List.set_cons_succ, List.set_cons_zero]
    gi_wp2_with (rw [Oper.semAt_eq _ _ _ (fun c h => by cases h)]; go_simp; try go_bits)
    refine hK _ _ ?_ (KeepT.alloc _ _ _) ?_ ⟨W.heap.size, by have := blk_lt hv; omega, heap_alloc_new W _, rfl⟩
    · exact KeepsFrom.of_grownBy (World.grownBy_alloc W _ none) (fun j e => by cases e)
    · exact ⟨v, (Below.heap_alloc _ _ _ (blk_lt hv)).trans hv, Kd.R_alloc hr _, hb.alloc hb.size _⟩
  · rintro l pre x a' W hl ⟨v, hv, hr, hb⟩ ⟨q, hq, hc, rfl⟩ hlen _
    have hv0 : W.cell? ⟨w.heap.size, 0, none⟩ = some v := (blk_cell hv 0).trans rfl
    have hf0 : W.frozen? ⟨w.heap.size, 0, none⟩ = false := blk_frozen hv 0
    have hc0 : W.cell? ⟨q, 0, none⟩ = some (.int .i64 x.f0) := (blk_cell hc 0).trans rfl
    have hc1 : W.cell? ⟨q, 1, none⟩ = some (.int .i64 x.f1) := (blk_cell hc 1).trans rfl
    have hne : some w.heap.size ≠ v.ownBlock := by obtain ⟨_, inner, ho, _⟩ := hr; exact own_ne ho hv (by decide)
    gi_wp2_with (first | (gi_at_builtin; refine R_push_in kXE (w0 := w) w.heap.size 57 61 (.agg #[.int .i64 0, .int .i64 0]) 16 rfl rfl Tryz.underlying57 infoX rfl (by decide) (by decide) v pre x _ rfl rfl ⟨[.int .i64 x.f0], [.int .i64 x.f1], rfl, rfl, rfl⟩ hr hb hb.size (by omega) ?_; intro v1 w1 hr1 hb1 hg1; obtain ⟨A1, c1, rfl, _, _⟩ := Kd.R_reads hr1; have hv1 := (hg1.block _ (blk_lt hv) hne).trans hv; have hv1c : w1.cell? ⟨w.heap.size, 0, none⟩ = some v := (blk_cell hv1 0).trans rfl; have hf1 := blk_frozen hv1 0) | (rw [Oper.semAt_eq _ _ _ (fun c h => by cases h)]; go_simp; try go_bits))
    obtain ⟨_, inner, ho, _⟩ := hr
    have hko : KeepsOthers W w1 := ⟨hg1.size, fun k o hk hc => (hg1.block k (blk_lt hk) fun e => by obtain ⟨cells, hcc⟩ := own_typed ho k e.symm; rw [hk] at hcc; injection hcc with hcc; subst hcc; cases hc).trans hk⟩
    refine ⟨(hko.trans (KeepsOthers.setCell _ _ _)).from _, (KeepT.grown hg1 (fun r e => by obtain ⟨cells, hcc⟩ := own_typed ho r e; exact ⟨_, hcc, fun ⟨_, _, _, he, hm⟩ => by cases he; exact h4 hm⟩)).trans (KeepT.set T' hv1 h3 0 _), _, by simpa using blk_set hv1 0 (.slice A1 (pre.length + 1) c1), ?_, hb1.grown (grownBy_set1 w1 _ 0 _) hb1.size (fun k e => by cases e; exact Nat.le_refl _)⟩
    refine xR_grown (T := [57]) ?_ (grownBy_set1 w1 _ 0 _) (fun q hq => by simp [show kXE.E = [] from rfl] at hq; subst hq; decide) (fun r e => by cases e; exact ⟨_, hv1, .inr ⟨_, _, _, rfl, by simp⟩⟩)
    simpa using hr1
  · rintro D xs W hD hS ⟨v, hv, hr, hb⟩ hK
    have hv0 : W.cell? ⟨w.heap.size, 0, none⟩ = some v := (blk_cell hv 0).trans rfl
    gi_wp2
    refine ⟨by simp, .inl ⟨_, _, rfl, run_takeDeferred hK, ?_⟩⟩
    have hD' : w.heap.size ≤ D := by simp at hD; omega
    exact ⟨v, results_tmp (t := 4) rfl _ _ _, v, xs, rfl, hS, xR_grown (T := []) hr (grownBy_putObj' W D _) (fun _ _ => by simp) (fun r e => by cases e; exact ⟨_, hK, .inl rfl⟩), hb.grown (grownBy_putObj' W D _) hb.size (fun k e => by cases e; exact hD')⟩
theorem collect.calls (g : Nat) (lb : Array Value) (eg : ∀ args w, (callFunc g args).run Tryz.prog w = .ok (.enter g args) w) (T T' : List Nat) (S : List XE → Prop) (w : World)
    (h1 : 57 ∉ T) (h2 : 61 ∉ T) (h3 : 57 ∉ T') (h4 : 61 ∉ T') (hseq : SeqAll Tryz.prog g lb encX T T' (fun _ => True) S 1048576 w) :
    Calls Tryz.prog 74 #[.func (.func g) #[] lb] w (RetSeq S w) := by
  have hc := appendSeq.calls g lb eg T T' S w h1 h2 h3 h4 hseq
  go_enter Tryz.func74, Tryz.ntmps74
  go_wp2_with (go_at_call 93; refine hc.mono ?_; rintro e w1 ⟨v, xs, rfl, n1, n2, n3⟩; have m1 := Aside0.mk n1; have m2 := Aside0.mk n2; have m3 := Aside0.mk n3; clear n1 n2 n3)
  go_ret
  exact ⟨v, xs, rfl, m1.out, m2.out, m3.out⟩
theorem extent_sweep.calls (a b : Value) (A B : Option Addr) (n ca m cb kf : Nat) (w : World) : Calls Tryz.prog 75 #[.slice A n ca, .slice B m cb, .func (.func kf) #[] #[]] w fun e w' =>
    e = .returned (.func (.func 94) #[] #[.pointer (some ⟨w.heap.size, 0, none⟩), .pointer (some ⟨w.heap.size + 1, 0, none⟩), .pointer (some ⟨w.heap.size + 2, 0, none⟩)]) ∧
    w' = ((w.alloc (.cells #[.slice A n ca] 57)).alloc (.cells #[.slice B m cb] 57)).alloc (.cells #[.func (.func kf) #[] #[]] 124) := by
  go_enter Tryz.func75, Tryz.ntmps75
  go_wp2
  go_ret
  exact ⟨by simp, rfl⟩
def SwOf (keep : Bool → Bool → Bool) (xs ys l : List XE) : Prop := ∃ zs, zs.Perm (endsOf 0 [xs, ys]) ∧ SortedEn zs ∧ l = swl keep zs 0 0 0 false
theorem sweep_new (kf : Nat) (keep : Bool → Bool → Bool) (hkf : KeepFn kf keep) (A B : Option Addr) (ca cb : Nat) (xs ys : List XE) (w : World)
    (hra : Kd.C kXE w A xs.length xs) (hca : xs.length ≤ ca) (hrb : Kd.C kXE w B ys.length ys) (hcb : ys.length ≤ cb) (hox : ∀ x ∈ xs, okX x) (hoy : ∀ x ∈ ys, okX x) (hl : xs.length + ys.length ≤ 262144) :
    SeqAll Tryz.prog 94 #[.pointer (some ⟨w.heap.size, 0, none⟩), .pointer (some ⟨w.heap.size + 1, 0, none⟩), .pointer (some ⟨w.heap.size + 2, 0, none⟩)] encX [140] [140, 142, 124] (fun _ => True) (SwOf keep xs ys) 1048576
      (((w.alloc (.cells #[.slice A xs.length ca] 57)).alloc (.cells #[.slice B ys.length cb] 57)).alloc (.cells #[.func (.func kf) #[] #[]] 124)) := by
  have g0 := (Below.heap_alloc ((w.alloc (.cells #[.slice A xs.length ca] 57)).alloc (.cells #[.slice B ys.length cb] 57)) (.cells #[.func (.func kf) #[] #[]] 124) w.heap.size (by simp; omega)).trans ((Below.heap_alloc _ _ _ (by simp)).trans (heap_alloc_new w _))
  have g1 := (Below.heap_alloc ((w.alloc (.cells #[.slice A xs.length ca] 57)).alloc (.cells #[.slice B ys.length cb] 57)) (.cells #[.func (.func kf) #[] #[]] 124) (w.alloc (.cells #[.slice A xs.length ca] 57)).heap.size (by simp)).trans (heap_alloc_new _ _)
  rw [World.size_alloc] at g1
  refine sweep_all kf keep hkf _ _ _ A B ca cb xs ys _ ?_ ?_ ?_ (Kd.C_alloc (Kd.C_alloc (Kd.C_alloc hra _) _) _) hca (Kd.C_alloc (Kd.C_alloc (Kd.C_alloc hrb _) _) _) hcb hox hoy hl
  · exact (blk_cell g0 0).trans rfl
  · exact (blk_cell g1 0).trans rfl
  · simpa using heap_alloc_new ((w.alloc (.cells #[.slice A xs.length ca] 57)).alloc (.cells #[.slice B ys.length cb] 57)) (.cells #[.func (.func kf) #[] #[]] 124)
theorem extent_Union.calls0 (A B : Option Addr) (ca cb : Nat) (xs ys : List XE) (w : World)
    (hra : Kd.C kXE w A xs.length xs) (hca : xs.length ≤ ca) (hrb : Kd.C kXE w B ys.length ys) (hcb : ys.length ≤ cb) (hox : ∀ x ∈ xs, okX x) (hoy : ∀ x ∈ ys, okX x) (hl : xs.length + ys.length ≤ 262144) :
    Calls Tryz.prog 77 #[.slice A xs.length ca, .slice B ys.length cb] w (RetSeq (SwOf (fun a b => a || b) xs ys) w) := by
  have hs := sweep_new _ _ keepUnion A B ca cb xs ys w hra hca hrb hcb hox hoy hl
  have hc := collect.calls _ _ (enters_of Tryz.func94 (by kernel_rfl) rfl) _ _ _ _ (by decide) (by decide) (by decide) (by decide) hs
  clear hs hra hrb hox hoy
  go_enter Tryz.func77, Tryz.ntmps77
  go_wp2_with (first | (go_at_call 75; refine (extent_sweep.calls default default _ _ _ _ _ _ _ _).mono ?_; rintro e w1 ⟨rfl, rfl⟩) | (go_at_call 74; refine hc.mono ?_; rintro e w1 ⟨v, xs, rfl, n1, n2, n3⟩; have m1 := Aside0.mk n1; have m2 := Aside0.mk n2; have m3 := Aside0.mk n3; clear n1 n2 n3))
  go_ret
  exact ⟨v, _, rfl, m1.out, R_up m2.out (by simp; omega), (below_alloc (below_alloc (below_alloc (Below.refl _ _) _) _) _).trans (m3.out.mono (by simp; omega))⟩
end Go.Proofs.YtdplnbmioioniaaGreat.Pq
end
section
namespace Go.Proofs.YtdplnbmioioniaaGreat.Pq
set_option linter.unusedVariables false
set_option linter.unusedSimpArgs false
def hasX (x : XE) (i : Int) : Prop := x.f0 ≤ i ∧ i < x.f0 + x.f1
def MemX (l : List XE) (i : Int) : Prop := ∃ x, x ∈ l ∧ hasX x i
theorem memx_nil (i : Int) : ¬ MemX [] i := fun ⟨_, h, _⟩ => nomatch h
theorem memx_cons (x : XE) (l : List XE) (i : Int) : MemX (x :: l) i ↔ hasX x i ∨ MemX l i := by
  constructor
  · rintro ⟨y, hy, hi⟩
    rcases List.mem_cons.1 hy with rfl | h
    · exact .inl hi
    · exact .inr ⟨y, h, hi⟩
  · rintro (h | ⟨y, hy, hi⟩)
    · exact ⟨x, List.mem_cons_self .., h⟩
    · exact ⟨y, List.mem_cons_of_mem _ hy, hi⟩
def Canon : Int → List XE → Prop
  | _, [] => True
  | lo, x :: r => lo ≤ x.f0 ∧ 0 < x.f1 ∧ Canon (x.f0 + x.f1 + 1) r
theorem Canon.mono {lo lo' : Int} {l : List XE} (h : Canon lo l) (hl : lo' ≤ lo) : Canon lo' l := by
  cases l with
  | nil => trivial
  | cons x r => exact ⟨by have := h.1; omega, h.2.1, h.2.2⟩
theorem Canon.lo_le {lo : Int} {l : List XE} (h : Canon lo l) {i : Int} (hi : MemX l i) : lo ≤ i := by
  induction l generalizing lo with
  | nil => exact absurd hi (memx_nil i)
  | cons x r ih =>
    obtain ⟨h1, h2, h3⟩ := h
    rcases (memx_cons x r i).1 hi with hx | hr
    · have := hx.1; omega
    · have := ih h3 hr; omega
theorem Canon.unique {lo lo' : Int} {l l' : List XE} (h : Canon lo l) (h' : Canon lo' l') (hm : ∀ i, MemX l i ↔ MemX l' i) : l = l' := by
  induction l generalizing lo lo' l' with
  | nil =>
    cases l' with
    | nil => rfl
    | cons y r' =>
      obtain ⟨_, h2, _⟩ := h'
      exact absurd ((hm y.f0).2 ((memx_cons ..).2 (.inl ⟨by omega, by omega⟩))) (memx_nil _)
  | cons x r ih =>
    obtain ⟨h1, h2, h3⟩ := h
    cases l' with
    | nil => exact absurd ((hm x.f0).1 ((memx_cons ..).2 (.inl ⟨by omega, by omega⟩))) (memx_nil _)
    | cons y r' =>
      obtain ⟨g1, g2, g3⟩ := h'
      have hxs : MemX (y :: r') x.f0 := (hm x.f0).1 ((memx_cons ..).2 (.inl ⟨by omega, by omega⟩))
      have hys : MemX (x :: r) y.f0 := (hm y.f0).2 ((memx_cons ..).2 (.inl ⟨by omega, by omega⟩))
      have e1 : x.f0 = y.f0 := by
        have a1 : y.f0 ≤ x.f0 := by
          rcases (memx_cons ..).1 hxs with h | h
          · exact h.1
          · have := Canon.lo_le g3 h; omega
        have a2 : x.f0 ≤ y.f0 := by
          rcases (memx_cons ..).1 hys with h | h
          · exact h.1
          · have := Canon.lo_le h3 h; omega
        omega
      have e2 : x.f1 = y.f1 := by
        have nx : ¬ MemX (x :: r) (x.f0 + x.f1) := fun h => by
          rcases (memx_cons ..).1 h with h | h
          · have := h.2; omega
          · have := Canon.lo_le h3 h; omega
        have ny : ¬ MemX (y :: r') (y.f0 + y.f1) := fun h => by
          rcases (memx_cons ..).1 h with h | h
          · have := h.2; omega
          · have := Canon.lo_le g3 h; omega
        have hx : ∀ i, x.f0 ≤ i → i < x.f0 + x.f1 → MemX (y :: r') i := fun i a b => (hm i).1 ((memx_cons ..).2 (.inl ⟨a, b⟩))
        have hy : ∀ i, y.f0 ≤ i → i < y.f0 + y.f1 → MemX (x :: r) i := fun i a b => (hm i).2 ((memx_cons ..).2 (.inl ⟨a, b⟩))
        rcases Int.lt_trichotomy x.f1 y.f1 with h | h | h
        · exact absurd (hy (x.f0 + x.f1) (by omega) (by omega)) nx
        · exact h
        · exact absurd (hx (y.f0 + y.f1) (by omega) (by omega)) ny
      have exy : x = y := by cases x; cases y; simp_all
      subst exy
      have : r = r' := ih h3 g3 fun i => by
        constructor
        · intro hi
          have hlo := Canon.lo_le h3 hi
          rcases (memx_cons ..).1 ((hm i).1 ((memx_cons ..).2 (.inr hi))) with h | h
          · have := h.2; omega
          · exact h
        · intro hi
          have hlo := Canon.lo_le g3 hi
          rcases (memx_cons ..).1 ((hm i).2 ((memx_cons ..).2 (.inr hi))) with h | h
          · have := h.2; omega
          · exact h
      rw [this]
def bump : List XE → Int → List XE
  | [], i => [⟨i, 1⟩]
  | [x], i => if x.f0 + x.f1 = i then [⟨x.f0, x.f1 + 1⟩] else [x, ⟨i, 1⟩]
  | x :: y :: r, i => x :: bump (y :: r) i
def canon (p : Int → Bool) : Nat → List XE
  | 0 => []
  | n + 1 => if p n then bump (canon p n) n else canon p n
def endOf (lo : Int) : List XE → Int
  | [] => lo
  | x :: r => endOf (x.f0 + x.f1) r
theorem bump_ne (l : List XE) (i : Int) : bump l i ≠ [] := by
  cases l with
  | nil => simp [bump]
  | cons x r => cases r with
    | nil => unfold bump; split <;> simp
    | cons y r => simp [bump]
theorem canon_bump : ∀ (l : List XE) (lo i : Int), Canon lo l → lo ≤ i → endOf lo l ≤ i → Canon lo (bump l i) ∧ (∀ j, MemX (bump l i) j ↔ MemX l j ∨ j = i) ∧ endOf lo (bump l i) = i + 1
  | [], lo, i, _, hlo, _ => ⟨⟨hlo, (by show (0:Int) < 1; decide), trivial⟩, fun j => by rw [bump, memx_cons]; simp only [memx_nil, or_false, false_or, hasX]; omega, rfl⟩
  | [x], lo, i, h, hlo, he => by
    obtain ⟨h1, h2, _⟩ := h
    have he' : x.f0 + x.f1 ≤ i := he
    unfold bump
    split
    · rename_i e
      refine ⟨⟨h1, by show 0 < x.f1 + 1; omega, trivial⟩, fun j => ?_, by show x.f0 + (x.f1 + 1) = i + 1; omega⟩
      rw [memx_cons, memx_cons]; simp only [memx_nil, or_false, hasX]; omega
    · rename_i e
      refine ⟨⟨h1, h2, by show x.f0 + x.f1 + 1 ≤ i; omega, (by show (0:Int) < 1; decide), trivial⟩, fun j => ?_, rfl⟩
      rw [memx_cons, memx_cons, memx_cons]; simp only [memx_nil, or_false, hasX]; omega
  | x :: y :: r, lo, i, h, hlo, he => by
    obtain ⟨h1, h2, h3⟩ := h
    have hy := h3.1
    have key : endOf (x.f0 + x.f1 + 1) (y :: r) = endOf (x.f0 + x.f1) (y :: r) := rfl
    have hge : x.f0 + x.f1 + 1 ≤ endOf (x.f0 + x.f1 + 1) (y :: r) := by
      have : ∀ (l : List XE) (lo : Int), Canon lo l → lo ≤ endOf lo l := by
        intro l
        induction l with
        | nil => intro lo _; exact Int.le_refl _
        | cons z l ih =>
          intro lo h
          obtain ⟨a, b, c⟩ := h
          have := ih (z.f0 + z.f1) (c.mono (by omega))
          show lo ≤ endOf (z.f0 + z.f1) l
          omega
      exact this _ _ h3
    have he' : endOf (x.f0 + x.f1 + 1) (y :: r) ≤ i := he
    obtain ⟨a, b, c⟩ := canon_bump (y :: r) (x.f0 + x.f1 + 1) i h3 (by omega) he'
    refine ⟨⟨h1, h2, a⟩, fun j => ?_, ?_⟩
    · show MemX (x :: bump (y :: r) i) j ↔ _
      rw [memx_cons, b, memx_cons x]
      constructor
      · rintro (h | h | h)
        · exact .inl (.inl h)
        · exact .inl (.inr h)
        · exact .inr h
      · rintro ((h | h) | h)
        · exact .inl h
        · exact .inr (.inl h)
        · exact .inr (.inr h)
    · show endOf (x.f0 + x.f1) (bump (y :: r) i) = i + 1
      have : ∀ (l : List XE) (a b : Int), l ≠ [] → endOf a l = endOf b l := by
        intro l a b h
        cases l with
        | nil => exact absurd rfl h
        | cons z l => rfl
      rw [this _ _ (x.f0 + x.f1 + 1) (bump_ne _ _)]
      exact c
theorem canon_spec (p : Int → Bool) : ∀ n : Nat, Canon 0 (canon p n) ∧ (∀ j, MemX (canon p n) j ↔ 0 ≤ j ∧ j < n ∧ p j = true) ∧ endOf 0 (canon p n) ≤ n
  | 0 => ⟨trivial, fun j => ⟨fun h => absurd h (memx_nil j), fun h => by have := h.1; have := h.2.1; omega⟩, Int.le_refl _⟩
  | n + 1 => by
    obtain ⟨a, b, c⟩ := canon_spec p n
    unfold canon
    split
    · rename_i hp
      obtain ⟨a', b', c'⟩ := canon_bump _ 0 n a (by omega) c
      refine ⟨a', fun j => ?_, by rw [c']; omega⟩
      rw [b', b]
      constructor
      · rintro (⟨h1, h2, h3⟩ | h)
        · exact ⟨h1, by omega, h3⟩
        · subst h; exact ⟨by omega, by omega, hp⟩
      · rintro ⟨h1, h2, h3⟩
        by_cases e : j = n
        · exact .inr e
        · exact .inl ⟨h1, by omega, h3⟩
    · rename_i hp
      refine ⟨a, fun j => ?_, by omega⟩
      rw [b]
      constructor
      · rintro ⟨h1, h2, h3⟩; exact ⟨h1, by omega, h3⟩
      · rintro ⟨h1, h2, h3⟩
        by_cases e : j = n
        · subst e; exact absurd h3 hp
        · exact ⟨h1, by omega, h3⟩
theorem eq_canon {lo : Int} {l : List XE} (h : Canon lo l) (p : Int → Bool) (n : Nat) (hm : ∀ j, MemX l j ↔ 0 ≤ j ∧ j < n ∧ p j = true) : l = canon p n :=
  h.unique (canon_spec p n).1 fun i => (hm i).trans ((canon_spec p n).2.1 i).symm
theorem canon_congr {p q : Int → Bool} {n : Nat} (h : ∀ j : Int, 0 ≤ j → j < n → p j = q j) : canon p n = canon q n := by
  refine eq_canon (canon_spec p n).1 q n fun j => ((canon_spec p n).2.1 j).trans ?_
  constructor
  · rintro ⟨a, b, c⟩; exact ⟨a, b, by rw [← h j a b]; exact c⟩
  · rintro ⟨a, b, c⟩; exact ⟨a, b, by rw [h j a b]; exact c⟩
def sumc (l : List XE) : Int := (l.map (·.f1)).sum
def countp (p : Int → Bool) : Nat → Int
  | 0 => 0
  | n + 1 => if p n then countp p n + 1 else countp p n
theorem sumc_bump : ∀ (l : List XE) (i : Int), sumc (bump l i) = sumc l + 1
  | [], i => rfl
  | [x], i => by
    unfold bump; split
    · simp [sumc]
    · simp [sumc]
  | x :: y :: r, i => by
    have := sumc_bump (y :: r) i
    simp only [bump, sumc, List.map_cons, List.sum_cons] at *
    omega
theorem sumc_canon (p : Int → Bool) : ∀ n, sumc (canon p n) = countp p n
  | 0 => rfl
  | n + 1 => by
    unfold canon countp
    split
    · rw [sumc_bump, sumc_canon p n]
    · exact sumc_canon p n
end Go.Proofs.YtdplnbmioioniaaGreat.Pq
end
section
namespace Go.Proofs.YtdplnbmioioniaaGreat.Pq
open Go.Proofs.YtdplnbmioioniaaGreatW.PrintWords (mx mn)
set_option linter.unusedVariables false
set_option linter.unusedSimpArgs false
def isL (j : Bool) (z : En) : Bool := if z.l = 0 then !j else j
def dep (j : Bool) (zs : List En) (i : Int) : Int := match zs with
  | [] => 0
  | z :: r => (if isL j z = true ∧ z.a ≤ i then z.s else 0) + dep j r i
def tot (j : Bool) (zs : List En) : Int := match zs with
  | [] => 0
  | z :: r => (if isL j z = true then z.s else 0) + tot j r
theorem dep_low (j : Bool) (zs : List En) (i : Int) (h : ∀ z ∈ zs, i < z.a) : dep j zs i = 0 := by
  induction zs with
  | nil => rfl
  | cons z r ih =>
    have h1 := h z (List.mem_cons_self ..)
    rw [dep, if_neg (fun hh => by omega), ih (fun y hy => h y (List.mem_cons_of_mem _ hy))]; rfl
theorem dep_perm {zs ys : List En} (h : zs.Perm ys) (j : Bool) (i : Int) : dep j zs i = dep j ys i := by
  induction h with
  | nil => rfl
  | cons x _ ih => rw [dep, dep, ih]
  | swap x y l => simp only [dep]; omega
  | trans _ _ h1 h2 => exact h1.trans h2
theorem tot_perm {zs ys : List En} (h : zs.Perm ys) (j : Bool) : tot j zs = tot j ys := by
  induction h with
  | nil => rfl
  | cons x _ ih => rw [tot, tot, ih]
  | swap x y l => simp only [tot]; omega
  | trans _ _ h1 h2 => exact h1.trans h2
theorem dep_append (j : Bool) (l m : List En) (i : Int) : dep j (l ++ m) i = dep j l i + dep j m i := by
  induction l with
  | nil => simp [dep]
  | cons x l ih => simp only [List.cons_append, dep, ih]; omega
theorem tot_append (j : Bool) (l m : List En) : tot j (l ++ m) = tot j l + tot j m := by
  induction l with
  | nil => simp [tot]
  | cons x l ih => simp only [List.cons_append, tot, ih]; omega
def kp (keep : Bool → Bool → Bool) (zs : List En) (d0 d1 i : Int) : Bool := keep (decide (0 < d0 + dep false zs i)) (decide (0 < d1 + dep true zs i))
theorem kp_cons (keep : Bool → Bool → Bool) (x : En) (r : List En) (d0 d1 i : Int) (h : x.a ≤ i) :
    kp keep (x :: r) d0 d1 i = kp keep r (if x.l = 0 then d0 + x.s else d0) (if x.l = 0 then d1 else d1 + x.s) i := by
  unfold kp
  by_cases hl : x.l = 0
  · simp [dep, isL, hl, h, Int.add_assoc]
  · simp [dep, isL, hl, h, Int.add_assoc]
theorem kp_low (keep : Bool → Bool → Bool) (zs : List En) (d0 d1 i : Int) (h : ∀ z ∈ zs, i < z.a) : kp keep zs d0 d1 i = keep (decide (0 < d0)) (decide (0 < d1)) := by
  unfold kp; rw [dep_low _ _ _ h, dep_low _ _ _ h]; simp
theorem sw_spec (keep : Bool → Bool → Bool) (hk : keep false false = false) : ∀ (r : List En) (x : En) (d0 d1 st : Int) (ins : Bool), SortedEn (x :: r) → d0 + tot false (x :: r) = 0 → d1 + tot true (x :: r) = 0 →
    (ins = false → Canon x.a (swl keep (x :: r) d0 d1 st ins) ∧ ∀ i, MemX (swl keep (x :: r) d0 d1 st ins) i ↔ x.a ≤ i ∧ kp keep (x :: r) d0 d1 i = true) ∧
    (ins = true → st < x.a → Canon st (swl keep (x :: r) d0 d1 st ins) ∧ ∀ i, MemX (swl keep (x :: r) d0 d1 st ins) i ↔ st ≤ i ∧ (i < x.a ∨ kp keep (x :: r) d0 d1 i = true)) := by
  intro r
  induction r with
  | nil =>
    intro x d0 d1 st ins hs ht0 ht1
    have e0 : (if x.l = 0 then d0 + x.s else d0) = 0 := by by_cases hl : x.l = 0 <;> simp [tot, isL, hl] at ht0 ⊢ <;> omega
    have e1 : (if x.l = 0 then d1 else d1 + x.s) = 0 := by by_cases hl : x.l = 0 <;> simp [tot, isL, hl] at ht1 ⊢ <;> omega
    have hkp : ∀ i, x.a ≤ i → kp keep [x] d0 d1 i = false := fun i hi => by rw [kp_cons _ _ _ _ _ _ hi, e0, e1, kp_low _ _ _ _ _ (by simp)]; exact hk
    constructor
    · rintro rfl
      have : swl keep [x] d0 d1 st false = [] := by simp [swl, e0, e1, hk]
      rw [this]
      refine ⟨trivial, fun i => ⟨fun h => absurd h (memx_nil i), fun ⟨h1, h2⟩ => by rw [hkp i h1] at h2; cases h2⟩⟩
    · rintro rfl hst
      have : swl keep [x] d0 d1 st true = [⟨st, x.a - st⟩] := by simp [swl, e0, e1, hk]
      rw [this]
      refine ⟨⟨Int.le_refl _, by show 0 < x.a - st; omega, trivial⟩, fun i => ?_⟩
      rw [memx_cons]
      simp only [memx_nil, or_false, hasX]
      constructor
      · rintro ⟨h1, h2⟩; exact ⟨h1, .inl (by omega)⟩
      · rintro ⟨h1, h2 | h2⟩
        · exact ⟨h1, by omega⟩
        · by_cases h3 : i < x.a
          · exact ⟨h1, by omega⟩
          · rw [hkp i (by omega)] at h2; cases h2
  | cons y r ih =>
    intro x d0 d1 st ins hs ht0 ht1
    obtain ⟨hxy, hs'⟩ := List.pairwise_cons.1 hs
    have hle : x.a ≤ y.a := hxy y (List.mem_cons_self ..)
    obtain ⟨hyr, _⟩ := List.pairwise_cons.1 hs'
    have t0 : (if x.l = 0 then d0 + x.s else d0) + tot false (y :: r) = 0 := by by_cases hl : x.l = 0 <;> simp only [tot, isL, hl] at ht0 ⊢ <;> simp at ht0 ⊢ <;> omega
    have t1 : (if x.l = 0 then d1 else d1 + x.s) + tot true (y :: r) = 0 := by by_cases hl : x.l = 0 <;> simp only [tot, isL, hl] at ht1 ⊢ <;> simp at ht1 ⊢ <;> omega
    have hkc := fun i h => kp_cons keep x (y :: r) d0 d1 i h
    have hkl : ∀ i, x.a ≤ i → i < y.a → kp keep (x :: y :: r) d0 d1 i = keep (decide (0 < (if x.l = 0 then d0 + x.s else d0))) (decide (0 < (if x.l = 0 then d1 else d1 + x.s))) := fun i h1 h2 => by
      rw [hkc i h1, kp_low]
      intro z hz
      rcases List.mem_cons.1 hz with rfl | h
      · exact h2
      · have := hyr z h; omega
    rw [swl.eq_def]
    dsimp only
    generalize (if x.l = 0 then d0 + x.s else d0) = e0 at t0 hkc hkl ⊢
    generalize (if x.l = 0 then d1 else d1 + x.s) = e1 at t1 hkc hkl ⊢
    by_cases hy : y.a = x.a
    · rw [if_pos (by simpa using hy)]
      obtain ⟨ih1, ih2⟩ := ih y e0 e1 st ins hs' t0 t1
      constructor
      · intro hi
        obtain ⟨a, b⟩ := ih1 hi
        refine ⟨hy ▸ a, fun i => (b i).trans ?_⟩
        rw [hy]
        constructor
        · rintro ⟨h1, h2⟩; exact ⟨h1, by rw [hkc i h1]; exact h2⟩
        · rintro ⟨h1, h2⟩; exact ⟨h1, by rw [hkc i h1] at h2; exact h2⟩
      · intro hi hst
        obtain ⟨a, b⟩ := ih2 hi (by omega)
        refine ⟨a, fun i => (b i).trans ?_⟩
        rw [hy]
        constructor
        · rintro ⟨h1, h2⟩
          by_cases h3 : i < x.a
          · exact ⟨h1, .inl h3⟩
          · rw [hkc i (by omega)]; exact ⟨h1, h2⟩
        · rintro ⟨h1, h2⟩
          by_cases h3 : i < x.a
          · exact ⟨h1, .inl h3⟩
          · rw [hkc i (by omega)] at h2; exact ⟨h1, h2⟩
    · have hlt : x.a < y.a := by omega
      rw [if_neg (by simpa using hy)]
      generalize hnow : keep (decide (0 < e0)) (decide (0 < e1)) = now at hkl
      cases now with
      | true =>
        have hst' : ∀ st', (if (true && !ins) = true then x.a else st') = (if ins then st' else x.a) := by intro st'; cases ins <;> rfl
        simp only [Bool.not_true, Bool.false_and, Bool.true_and, Bool.false_eq_true, if_false]
        constructor
        · rintro rfl
          obtain ⟨a, b⟩ := (ih y e0 e1 x.a true hs' t0 t1).2 rfl hlt
          refine ⟨a, fun i => (b i).trans ?_⟩
          constructor
          · rintro ⟨h1, h2⟩
            refine ⟨h1, ?_⟩
            by_cases h3 : i < y.a
            · exact hkl i h1 h3
            · rw [hkc i h1]; exact h2.resolve_left h3
          · rintro ⟨h1, h2⟩
            by_cases h3 : i < y.a
            · exact ⟨h1, .inl h3⟩
            · exact ⟨h1, .inr (by rw [hkc i h1] at h2; exact h2)⟩
        · rintro rfl hst
          obtain ⟨a, b⟩ := (ih y e0 e1 st true hs' t0 t1).2 rfl (by omega)
          refine ⟨a, fun i => (b i).trans ?_⟩
          constructor
          · rintro ⟨h1, h2⟩
            refine ⟨h1, ?_⟩
            by_cases h4 : i < x.a
            · exact .inl h4
            · by_cases h3 : i < y.a
              · exact .inr (hkl i (by omega) h3)
              · rw [hkc i (by omega)]; exact .inr (h2.resolve_left h3)
          · rintro ⟨h1, h2⟩
            refine ⟨h1, ?_⟩
            by_cases h3 : i < y.a
            · exact .inl h3
            · rw [hkc i (by omega)] at h2; exact .inr (h2.resolve_left (by omega))
      | false =>
        constructor
        · rintro rfl
          obtain ⟨a, b⟩ := (ih y e0 e1 st false hs' t0 t1).1 rfl
          simp only [Bool.not_false, Bool.and_false, Bool.false_and, Bool.false_eq_true, if_false]
          refine ⟨a.mono (by omega), fun i => (b i).trans ?_⟩
          constructor
          · rintro ⟨h1, h2⟩; exact ⟨by omega, by rw [hkc i (by omega)]; exact h2⟩
          · rintro ⟨h1, h2⟩
            by_cases h3 : i < y.a
            · rw [hkl i h1 h3] at h2; cases h2
            · exact ⟨by omega, by rw [hkc i h1] at h2; exact h2⟩
        · rintro rfl hst
          obtain ⟨a, b⟩ := (ih y e0 e1 st false hs' t0 t1).1 rfl
          simp only [Bool.not_false, Bool.not_true, Bool.and_false, Bool.false_and, Bool.true_and, Bool.and_true, Bool.false_eq_true, if_false, if_true]
          refine ⟨⟨Int.le_refl _, by show 0 < x.a - st; omega, a.mono (by show st + (x.a - st) + 1 ≤ y.a; omega)⟩, fun i => ?_⟩
          rw [memx_cons, b]
          simp only [hasX]
          constructor
          · rintro (⟨h1, h2⟩ | ⟨h1, h2⟩)
            · exact ⟨h1, .inl (by omega)⟩
            · exact ⟨by omega, .inr (by rw [hkc i (by omega)]; exact h2)⟩
          · rintro ⟨h1, h2⟩
            by_cases h4 : i < x.a
            · exact .inl ⟨h1, by omega⟩
            · have h5 := h2.resolve_left h4
              by_cases h3 : i < y.a
              · rw [hkl i (by omega) h3] at h5; cases h5
              · exact .inr ⟨by omega, by rw [hkc i (by omega)] at h5; exact h5⟩
def inL (xs : List XE) (i : Int) : Bool := xs.any fun x => inX x i
theorem inX_iff (x : XE) (i : Int) : inX x i = true ↔ 0 < x.f1 ∧ mx x.f0 0 ≤ i ∧ i < mn (x.f0 + x.f1) 4096 := by simp [inX, and_assoc]
theorem inX_range {x : XE} {i : Int} (h : inX x i = true) : 0 ≤ i ∧ i < 4096 := by
  obtain ⟨_, h2, h3⟩ := (inX_iff x i).1 h
  unfold mx at h2; unfold mn at h3
  split at h2 <;> split at h3 <;> omega
theorem endsX_dep (k : Int) (j : Bool) (x : XE) (i : Int) (hj : k = if j then 1 else 0) : dep j (endsX k x) i = (if inX x i then 1 else 0) ∧ tot j (endsX k x) = 0 := by
  have hl : ∀ (a s : Int), isL j ⟨a, k, s⟩ = true := by intro a s; subst hj; cases j <;> simp [isL]
  unfold endsX
  have hi := inX_iff x i
  unfold wi
  by_cases hc : x.f1 ≤ 0
  · rw [if_pos hc]
    have : inX x i = false := by cases h : inX x i with | false => rfl | true => have := (hi.1 h).1; omega
    simp [this, dep, tot]
  · rw [if_neg hc]
    dsimp only
    generalize mx x.f0 0 = f at hi ⊢
    generalize mn (x.f0 + x.f1) 4096 = t at hi ⊢
    by_cases hft : f < t
    · rw [if_pos (by simpa using hft)]
      simp only [dep, tot, hl, true_and, if_true]
      refine ⟨?_, by omega⟩
      by_cases h : inX x i = true
      · obtain ⟨h1, h2, h3⟩ := hi.1 h
        rw [if_pos h, if_pos h2, if_neg (by omega)]; rfl
      · rw [if_neg h]
        by_cases h2 : f ≤ i
        · have h3 : t ≤ i := by
            refine Int.not_lt.1 fun h3 => h (hi.2 ⟨by omega, h2, h3⟩)
          rw [if_pos h2, if_pos h3]; rfl
        · rw [if_neg h2, if_neg (by omega)]; rfl
    · rw [if_neg (by simpa using hft)]
      have : inX x i = false := by cases h : inX x i with | false => rfl | true => have := hi.1 h; omega
      simp [this, dep, tot]
theorem endsX_other (k : Int) (j : Bool) (x : XE) (i : Int) (hj : k = if j then 0 else 1) : dep j (endsX k x) i = 0 ∧ tot j (endsX k x) = 0 := by
  have hl : ∀ (a s : Int), isL j ⟨a, k, s⟩ = false := by intro a s; subst hj; cases j <;> simp [isL]
  unfold endsX
  split <;> simp [dep, tot, hl]
theorem endsL_dep (k : Int) (j : Bool) (xs : List XE) (i : Int) (hj : k = if j then 1 else 0) : 0 ≤ dep j (endsL k xs) i ∧ (0 < dep j (endsL k xs) i ↔ inL xs i = true) ∧ tot j (endsL k xs) = 0 := by
  induction xs with
  | nil => simp [endsL, dep, tot, inL]
  | cons x r ih =>
    obtain ⟨i1, i2, i3⟩ := ih
    obtain ⟨h1, h2⟩ := endsX_dep k j x i hj
    have e : endsL k (x :: r) = endsX k x ++ endsL k r := rfl
    rw [e, dep_append, tot_append, h1, h2, i3]
    have e2 : inL (x :: r) i = (inX x i || inL r i) := rfl
    rw [e2]
    cases hx : inX x i <;> simp only [Bool.false_or, Bool.true_or, if_true, Bool.false_eq_true, if_false] <;> refine ⟨by omega, ?_, by omega⟩
    · rw [← i2]; omega
    · exact ⟨fun _ => trivial, fun _ => by omega⟩
theorem endsL_other (k : Int) (j : Bool) (xs : List XE) (i : Int) (hj : k = if j then 0 else 1) : dep j (endsL k xs) i = 0 ∧ tot j (endsL k xs) = 0 := by
  induction xs with
  | nil => simp [endsL, dep, tot]
  | cons x r ih =>
    obtain ⟨h1, h2⟩ := endsX_other k j x i hj
    have e : endsL k (x :: r) = endsX k x ++ endsL k r := rfl
    rw [e, dep_append, tot_append, h1, h2, ih.1, ih.2]; exact ⟨rfl, rfl⟩
theorem sweep_canon (keep : Bool → Bool → Bool) (hk : keep false false = false) (xs ys : List XE) (zs : List En) (hp : zs.Perm (endsOf 0 [xs, ys])) (hs : SortedEn zs) :
    swl keep zs 0 0 0 false = canon (fun i => keep (inL xs i) (inL ys i)) 4096 := by
  have d0 : ∀ i, dep false zs i = dep false (endsL 0 xs) i := fun i => by rw [dep_perm hp, endsOf_two, dep_append, (endsL_other 1 false ys i rfl).1]; omega
  have d1 : ∀ i, dep true zs i = dep true (endsL 1 ys) i := fun i => by rw [dep_perm hp, endsOf_two, dep_append, (endsL_other 0 true xs i rfl).1]; omega
  have q0 : tot false zs = 0 := by rw [tot_perm hp, endsOf_two, tot_append, (endsL_other 1 false ys 0 rfl).2, (endsL_dep 0 false xs 0 rfl).2.2]; rfl
  have q1 : tot true zs = 0 := by rw [tot_perm hp, endsOf_two, tot_append, (endsL_other 0 true xs 0 rfl).2, (endsL_dep 1 true ys 0 rfl).2.2]; rfl
  have hkp : ∀ i, kp keep zs 0 0 i = keep (inL xs i) (inL ys i) := fun i => by
    unfold kp
    rw [Int.zero_add, Int.zero_add, d0, d1]
    congr 1
    · have := (endsL_dep 0 false xs i rfl).2.1
      cases h : inL xs i <;> simp [h] at this ⊢ <;> omega
    · have := (endsL_dep 1 true ys i rfl).2.1
      cases h : inL ys i <;> simp [h] at this ⊢ <;> omega
  have hin : ∀ i, keep (inL xs i) (inL ys i) = true → 0 ≤ i ∧ i < 4096 := by
    intro i h
    have hor : inL xs i = true ∨ inL ys i = true := by
      cases h1 : inL xs i <;> cases h2 : inL ys i
      · rw [h1, h2, hk] at h; cases h
      · exact .inr rfl
      · exact .inl rfl
      · exact .inl rfl
    rcases hor with h | h <;> obtain ⟨x, _, hx⟩ := List.any_eq_true.1 h <;> exact inX_range hx
  cases zs with
  | nil =>
    refine eq_canon (lo := 0) (show Canon 0 ([] : List XE) from trivial) _ _ fun i => ⟨fun h => absurd h (memx_nil i), fun ⟨_, _, h⟩ => ?_⟩
    have := hkp i
    rw [kp_low _ _ _ _ _ (by simp)] at this
    rw [show keep (inL xs i) (inL ys i) = true from h] at this
    simp [hk] at this
  | cons x r =>
    obtain ⟨a, b⟩ := (sw_spec keep hk r x 0 0 0 false hs (by rw [q0]; rfl) (by rw [q1]; rfl)).1 rfl
    refine eq_canon a _ _ fun i => (b i).trans ?_
    rw [hkp]
    constructor
    · rintro ⟨h1, h2⟩; exact ⟨(hin i h2).1, by have := (hin i h2).2; omega, h2⟩
    · rintro ⟨_, _, h⟩
      refine ⟨Int.not_lt.1 fun h3 => ?_, h⟩
      rw [← hkp, kp_low] at h
      · simp [hk] at h
      · intro z hz
        rcases List.mem_cons.1 hz with rfl | hz
        · exact h3
        · have := (List.pairwise_cons.1 hs).1 z hz; omega
end Go.Proofs.YtdplnbmioioniaaGreat.Pq
end
section
namespace Go.Proofs.YtdplnbmioioniaaGreat.Pq
open Go.RowKit Go.Shelf Go.Proofs.YtdplnbmioioniaaGreatW.PrintWords Go.Proofs.YtdplnbmioioniaaGreatW.PrintLast Go.Proofs.YtdplnbmioioniaaGreatW.PrintMore
set_option linter.unusedVariables false
set_option linter.unusedSimpArgs false
set_option maxHeartbeats 2000000
theorem extent_Intersect_1.calls (a b : Bool) (W : World) : Calls Tryz.prog 76 #[.bool a, .bool b] W fun e w' => e = .returned (.bool (a && b)) ∧ W = w' := by
  cases a
  · go_enter Tryz.func76, Tryz.ntmps76
    go_wp2
    go_ret
    exact ⟨rfl, rfl⟩
  · go_enter Tryz.func76, Tryz.ntmps76
    go_wp2
    go_ret
    exact ⟨rfl, rfl⟩
theorem keepIntersect : KeepFn 76 (fun a b => a && b) := ⟨enters_of Tryz.func76 (by kernel_rfl) rfl, extent_Intersect_1.calls⟩
theorem extent_Intersect.calls0 (A B : Option Addr) (ca cb : Nat) (xs ys : List XE) (w : World)
    (hra : Kd.C kXE w A xs.length xs) (hca : xs.length ≤ ca) (hrb : Kd.C kXE w B ys.length ys) (hcb : ys.length ≤ cb) (hox : ∀ x ∈ xs, okX x) (hoy : ∀ x ∈ ys, okX x) (hl : xs.length + ys.length ≤ 262144) :
    Calls Tryz.prog 45 #[.slice A xs.length ca, .slice B ys.length cb] w (RetSeq (SwOf (fun a b => a && b) xs ys) w) := by
  have hs := sweep_new _ _ keepIntersect A B ca cb xs ys w hra hca hrb hcb hox hoy hl
  have hc := collect.calls _ _ (enters_of Tryz.func94 (by kernel_rfl) rfl) _ _ _ _ (by decide) (by decide) (by decide) (by decide) hs
  clear hs hra hrb hox hoy
  go_enter Tryz.func45, Tryz.ntmps45
  go_wp2_with (first | (go_at_call 75; refine (extent_sweep.calls default default _ _ _ _ _ _ _ _).mono ?_; rintro e w1 ⟨rfl, rfl⟩) | (go_at_call 74; refine hc.mono ?_; rintro e w1 ⟨v, xs, rfl, n1, n2, n3⟩; have m1 := Aside0.mk n1; have m2 := Aside0.mk n2; have m3 := Aside0.mk n3; clear n1 n2 n3))
  go_ret
  exact ⟨v, _, rfl, m1.out, R_up m2.out (by simp; omega), (below_alloc (below_alloc (below_alloc (Below.refl _ _) _) _) _).trans (m3.out.mono (by simp; omega))⟩
def okL (l : List XE) : Prop := (∀ x ∈ l, okX x) ∧ l.length ≤ 131072
instance (l : List XE) : Decidable (okL l) := inferInstanceAs (Decidable (_ ∧ _))
def extent_Union.f (l0 l1 : List XE) : Option (List XE) := if okL l0 ∧ okL l1 then some (canon (fun i => inL l0 i || inL l1 i) 4096) else none
theorem extent_Union.calls (A0 : Option Addr) (c0 : Nat) (l0 : List XE) (A1 : Option Addr) (c1 : Nat) (l1 : List XE) (r : List XE) (w : World) (hr0 : Kd.C kXE w A0 l0.length l0) (hc0 : l0.length ≤ c0) (hr1 : Kd.C kXE w A1 l1.length l1) (hc1 : l1.length ≤ c1) (h : extent_Union.f l0 l1 = some r) :
    Calls Tryz.prog 77 #[.slice A0 l0.length c0, .slice A1 l1.length c1] w fun e w' => ∃ v0_ : Value, e = .returned (v0_) ∧ Kd.R kXE 61 w' w.heap.size (fun _ => True) v0_ r ∧ Below w.heap.size w w' := by
  unfold extent_Union.f at h
  split at h
  · rename_i hk
    cases h
    refine (extent_Union.calls0 A0 A1 c0 c1 l0 l1 w hr0 hc0 hr1 hc1 hk.1.1 hk.2.1 (by have := hk.1.2; have := hk.2.2; omega)).mono ?_
    rintro e w' ⟨v, xs, rfl, ⟨zs, hp, hs, rfl⟩, hR, hB⟩
    rw [sweep_canon (fun a b => a || b) rfl l0 l1 zs hp hs] at hR
    exact ⟨v, rfl, hR, hB⟩
  · cases h
def extent_Intersect.f (l0 l1 : List XE) : Option (List XE) := if okL l0 ∧ okL l1 then some (canon (fun i => inL l0 i && inL l1 i) 4096) else none
theorem extent_Intersect.calls (A0 : Option Addr) (c0 : Nat) (l0 : List XE) (A1 : Option Addr) (c1 : Nat) (l1 : List XE) (r : List XE) (w : World) (hr0 : Kd.C kXE w A0 l0.length l0) (hc0 : l0.length ≤ c0) (hr1 : Kd.C kXE w A1 l1.length l1) (hc1 : l1.length ≤ c1) (h : extent_Intersect.f l0 l1 = some r) :
    Calls Tryz.prog 45 #[.slice A0 l0.length c0, .slice A1 l1.length c1] w fun e w' => ∃ v0_ : Value, e = .returned (v0_) ∧ Kd.R kXE 61 w' w.heap.size (fun _ => True) v0_ r ∧ Below w.heap.size w w' := by
  unfold extent_Intersect.f at h
  split at h
  · rename_i hk
    cases h
    refine (extent_Intersect.calls0 A0 A1 c0 c1 l0 l1 w hr0 hc0 hr1 hc1 hk.1.1 hk.2.1 (by have := hk.1.2; have := hk.2.2; omega)).mono ?_
    rintro e w' ⟨v, xs, rfl, ⟨zs, hp, hs, rfl⟩, hR, hB⟩
    rw [sweep_canon (fun a b => a && b) rfl l0 l1 zs hp hs] at hR
    exact ⟨v, rfl, hR, hB⟩
  · cases h
theorem sumc_take : ∀ (l : List XE) (lo : Int) (k : Nat), Canon lo l → 0 ≤ sumc (l.take k) ∧ sumc (l.take k) ≤ sumc l
  | [], _, k, _ => by simp [sumc]
  | x :: r, lo, 0, h => by
    have := sumc_take r _ 0 h.2.2
    have h2 := h.2.1
    simp only [sumc, List.take_zero, List.map_nil, List.sum_nil, List.map_cons, List.sum_cons] at *
    omega
  | x :: r, lo, k + 1, h => by
    have := sumc_take r _ k h.2.2
    have h2 := h.2.1
    simp only [sumc, List.take_succ_cons, List.map_cons, List.sum_cons] at *
    omega
theorem countp_le (p : Int → Bool) : ∀ n : Nat, 0 ≤ countp p n ∧ countp p n ≤ n
  | 0 => by simp [countp]
  | n + 1 => by have := countp_le p n; unfold countp; split <;> omega
theorem canon_sum (p : Int → Bool) (k : Nat) : 0 ≤ sumc ((canon p 4096).take k) ∧ sumc ((canon p 4096).take k) ≤ 4096 := by
  have h1 := sumc_take (canon p 4096) 0 k (canon_spec p 4096).1
  have h2 := sumc_canon p 4096
  have h3 := countp_le p 4096
  omega
theorem sumc_snoc (l : List XE) (k : Nat) (hk : k < l.length) : sumc (l.take (k + 1)) = sumc (l.take k) + (l.getD k z61).f1 := by
  rw [take_snoc l z61 k hk]; simp [sumc]
def extent_Count.f (l0 : List XE) : Option Int := if okL l0 then some (countp (inL l0) 4096) else none
theorem extent_Count.calls (A0 : Option Addr) (c0 : Nat) (l0 : List XE) (r : Int) (w : World) (hr0 : Kd.C kXE w A0 l0.length l0) (hc0 : l0.length ≤ c0) (h : extent_Count.f l0 = some r) :
    Calls Tryz.prog 51 #[.slice A0 l0.length c0] w fun e w' => e = .returned (.int .i64 r) ∧ Below w.heap.size w w' := by
  unfold extent_Count.f at h
  by_cases hnk : ¬ okL l0
  · rw [if_neg hnk] at h; cases h
  have hk := Decidable.not_not.1 hnk
  rw [if_pos hk] at h
  clear hnk
  cases h
  have hu := extent_Union.calls A0 c0 l0 none 0 [] _ w hr0 hc0 (Kd.C_nil _ _) (Nat.le_refl _) (by unfold extent_Union.f; rw [if_pos ⟨hk, by unfold okL; simp⟩])
  have he : canon (fun i => inL l0 i || inL [] i) 4096 = canon (inL l0) 4096 := canon_congr fun i _ _ => by simp [inL]
  rw [he] at hu
  have hsum := Aside0.mk (fun k => canon_sum (inL l0) k)
  have hfin := Aside0.mk (show sumc (canon (inL l0) 4096) = countp (inL l0) 4096 from sumc_canon _ _)
  clear he hk hr0
  generalize canon (inL l0) 4096 = cs at hu hsum hfin
  go_enter Tryz.func51, Tryz.ntmps51
  go_wp2_with (go_at_call 77; refine hu.mono ?_; rintro e w1 ⟨v, rfl, h1, h2⟩; obtain ⟨A1, c1, rfl, hc1, hC1⟩ := Kd.R_reads h1; have n1 := Aside0.mk hC1; have n2 := Aside0.mk h2; have hm := Kd.C_max hC1; clear h1 h2 hC1)
  go_loopg [3, 9] cs.length (fun gg s3 s9 wr => ∃ kk : Nat, kk ≤ cs.length ∧ cs.length - kk ≤ gg ∧ s9 = .int .i64 kk ∧ s3 = .int .i64 (sumc (cs.take kk)) ∧ Aside0 (Below w1.heap.size w1 wr))
  case atStart => exact ⟨0, Nat.zero_le _, by omega, rfl, rfl, ⟨Below.refl _ _⟩⟩
  case round =>
    obtain ⟨kk, hkk, hg, rfl, rfl, BW⟩ := hrel
    by_cases hlt : kk < cs.length
    · obtain ⟨ad, rfl, hc0', hc1'⟩ := C_at_ext (C_step n1.out BW.out) kk hlt
      have hs1 := hsum.out kk
      have hs2 := hsum.out (kk + 1)
      have hsn := sumc_snoc cs kk hlt
      rw [hsn] at hs2
      obtain ⟨hs3, hs4⟩ := hs1
      obtain ⟨hs5, hs6⟩ := hs2
      have hw0 : -9223372036854775808 ≤ sumc (cs.take kk) + (cs.getD kk z61).f1 := by omega
      have hw2 : sumc (cs.take kk) + (cs.getD kk z61).f1 ≤ 9223372036854775807 := by omega
      replace hsn := Aside0.mk hsn
      generalize (cs.getD kk z61) = x at hc0' hc1' hw0 hw2 hs5 hs6 hsn
      generalize sumc (cs.take kk) = s at hw0 hw2 hs3 hs4 hs5 hs6 hsn
      go_wp2
      go_roundg (cs.length - (kk + 1))
      case measure => omega
      case rel => exact ⟨kk + 1, by omega, by omega, by go_num, by rw [hsn.out], ⟨below_alloc BW.out _⟩⟩
    · have hk : kk = cs.length := by omega
      subst hk
      go_wp2
      go_ret
      exact ⟨by rw [List.take_length, hfin.out]; rfl, n2.out.trans (BW.out.mono n2.out.size)⟩
end Go.Proofs.YtdplnbmioioniaaGreat.Pq
end
section
namespace Go.Proofs.YtdplnbmioioniaaGreat.Pq
open Go.RowKit Go.Shelf Go.Proofs.YtdplnbmioioniaaGreatW.PrintWords Go.Proofs.YtdplnbmioioniaaGreatW.PrintLast Go.Proofs.YtdplnbmioioniaaGreatW.PrintMore
set_option linter.unusedVariables false
set_option linter.unusedSimpArgs false
set_option maxHeartbeats 2000000
def mp {α β : Type} (f : Nat → α → β) : Nat → List α → List β
  | _, [] => []
  | k, x :: r => f k x :: mp f (k + 1) r
theorem mp_drop {α β : Type} (f : Nat → α → β) (ls : List α) (z : α) (k : Nat) (hk : k < ls.length) : mp f k (ls.drop k) = f k (ls.getD k z) :: mp f (k + 1) (ls.drop (k + 1)) := by
  rw [List.drop_eq_getElem_cons hk, mp, List.getD_eq_getElem?_getD, List.getElem?_eq_getElem hk]; rfl
theorem mp_len {α β : Type} (f : Nat → α → β) : ∀ (k : Nat) (ls : List α), (mp f k ls).length = ls.length
  | _, [] => rfl
  | k, x :: r => by simp [mp, mp_len f (k + 1) r]
theorem infoLE : (Tryz.prog.info? 57).map (fun i => (i.zero, i.size, i.bytes)) = some (some (.slice none 0 0), 1, 24) := by kernel_rfl
theorem infoI : (Tryz.prog.info? 3).map (fun i => (i.zero, i.size, i.bytes)) = some (some (.int .i64 0), 1, 8) := by kernel_rfl
theorem infoB : (Tryz.prog.info? 4).map (fun i => (i.zero, i.size, i.bytes)) = some (some (.bool false), 1, 1) := by kernel_rfl
def RetS {α : Type} (d : Kd α) (t : TypeId) (xs : List α) (w : World) (e : Ending) (w' : World) : Prop :=
  ∃ v, e = .returned v ∧ Kd.S d t w' w.heap.size (fun _ => True) v xs ∧ Below w.heap.size w w'
theorem each_ext.calls (g : Nat) (cb : Array Value) (F : Nat → List XE → List XE) (A : Option Addr) (c : Nat) (ls : List (List XE)) (w : World)
    (eg : ∀ args w, (callFunc g args).run Tryz.prog w = .ok (.enter g args) w)
    (hr : Kd.C (Kd.slice 61 kXE) w A ls.length ls) (hc : ls.length ≤ c) (hl : ls.length ≤ 1048576)
    (hf : ∀ (i : Nat) (x : List XE) (A' : Option Addr) (c' : Nat) (W : World), Below w.heap.size w W → i < ls.length → x = ls.getD i [] → Kd.C kXE W A' x.length x → x.length ≤ c' → Calls Tryz.prog g (#[.int .i64 i, .slice A' x.length c'] ++ cb) W (RetR kXE 61 (F i x) W)) :
    Calls Tryz.prog 43 #[.slice A ls.length c, .func (.func g) #[] cb] w (RetS (Kd.slice 61 kXE) 57 (mp F 0 ls) w) := by
  have hmax := Kd.C_max hr
  go_enter Tryz.func43, Tryz.ntmps43
  go_wp2
  go_loopg [5, 10] ls.length (fun gg s5 s10 wr => ∃ (kk : Nat) (out : List (List XE)), kk ≤ ls.length ∧ ls.length - kk ≤ gg ∧ s10 = .int .i64 kk ∧ out.length = kk ∧ Aside0 (Below w.heap.size w wr) ∧ Aside0 (Kd.S (Kd.slice 61 kXE) 57 wr w.heap.size (fun _ => True) s5 out) ∧ Aside0 (out ++ mp F kk (ls.drop kk) = mp F 0 ls))
  case atStart => exact ⟨0, [], Nat.zero_le _, by omega, rfl, rfl, ⟨Below.refl _ w⟩, ⟨Kd.S_nil _ _ _ _ _⟩, ⟨rfl⟩⟩
  case round =>
    obtain ⟨kk, out, hkk, hg, rfl, hol, BW, HO, HE⟩ := hrel
    by_cases hlt : kk < ls.length
    · obtain ⟨ad, A', c', rfl, hcell0, hc', hrow0⟩ := C_at_row hr kk hlt
      have hcell := pw_cell_below BW.out hcell0
      have hcall := hf kk (ls.getD kk []) A' c' wr BW.out hlt rfl (C_step hrow0 BW.out) hc'
      have HE' := Aside0.mk (show (out ++ [F kk (ls.getD kk [])]) ++ mp F (kk + 1) (ls.drop (kk + 1)) = mp F 0 ls by rw [List.append_assoc, List.singleton_append, ← mp_drop F ls [] kk hlt]; exact HE.out)
      clear hcell0 hrow0 HE hf hr
      generalize ls.getD kk [] = x at hcell hcall HE' hc'
      generalize F kk x = y at hcall HE'
      go_wp2_with (first | (go_at_fn g; refine hcall.mono ?_; rintro e w1 ⟨v, rfl, h1, h2⟩; obtain ⟨Av, cv, rfl, hcv, hCv⟩ := Kd.R_reads h1; have n1 := Aside0.mk h1; have n2 := Aside0.mk h2; clear h1 h2 hCv) | ((with_reducible refine gate_builtin (b := .append) (xs := #[.tmp 15, .tmp 20]) rfl ?_); at_builtin; refine Kd.S_append (Kd.slice 61 kXE) (w0 := w) w.heap.size rfl (.tmp 15) (.tmp 20) 24 57 (.slice none 0 0) 24 rfl Tryz.underlying24 infoLE rfl (by decide) (by decide) _ out y [.slice Av y.length cv] (fun _ => True) (fun k => wr.heap.size ≤ k) rfl rfl ⟨_, rfl, Kd.R_lower (Kd.R_mono (Kd.R_bound n1.out) (fun k hk => hk.2.1)) BW.out.size⟩ (fun k hk => ⟨trivial, fun e => by have := Kd.S_lt HO.out k e.symm; omega⟩) (fun _ _ => trivial) (Kd.S_mono (Kd.S_old HO.out n2.out) (fun k hk => ⟨trivial, by have := hk.2; omega⟩)) (below_then BW.out BW.out.size n2.out) (by have := BW.out.size; have := n2.out.size; omega) (by omega) ?_; intro v1 w2 ho hb hgr hat; have n3 := Aside0.mk ho; have n4 := Aside0.mk hb; clear ho hb hgr hat))
      go_roundg (ls.length - (kk + 1))
      case measure => omega
      case rel => exact ⟨kk + 1, out ++ [y], by omega, by omega, by go_num, by simp [hol], n4, n3, HE'⟩
    · have hk : kk = ls.length := by omega
      have ho : out = mp F 0 ls := by have h := HE.out; rw [hk, List.drop_length] at h; simpa [mp] using h
      clear hf hr
      subst ho
      go_wp2
      go_ret
      exact ⟨_, rfl, HO.out, BW.out⟩
theorem each_int.calls (g : Nat) (cb : Array Value) (F : Nat → List XE → Int) (A : Option Addr) (c : Nat) (ls : List (List XE)) (w : World)
    (eg : ∀ args w, (callFunc g args).run Tryz.prog w = .ok (.enter g args) w)
    (hr : Kd.C (Kd.slice 61 kXE) w A ls.length ls) (hc : ls.length ≤ c) (hl : ls.length ≤ 1048576)
    (hf : ∀ (i : Nat) (x : List XE) (A' : Option Addr) (c' : Nat) (W : World), Below w.heap.size w W → i < ls.length → x = ls.getD i [] → Kd.C kXE W A' x.length x → x.length ≤ c' → Calls Tryz.prog g (#[.int .i64 i, .slice A' x.length c'] ++ cb) W (Ret (.int .i64 (F i x)) W)) :
    Calls Tryz.prog 49 #[.slice A ls.length c, .func (.func g) #[] cb] w (RetR (Kd.int .i64) 3 (mp F 0 ls) w) := by
  have hmax := Kd.C_max hr
  go_enter Tryz.func49, Tryz.ntmps49
  go_wp2
  go_loopg [5, 10] ls.length (fun gg s5 s10 wr => ∃ (kk : Nat) (out : List Int), kk ≤ ls.length ∧ ls.length - kk ≤ gg ∧ s10 = .int .i64 kk ∧ out.length = kk ∧ Aside0 (Below w.heap.size w wr) ∧ Aside0 (Kd.R (Kd.int .i64) 3 wr w.heap.size (fun _ => True) s5 out) ∧ Aside0 (out ++ mp F kk (ls.drop kk) = mp F 0 ls))
  case atStart => exact ⟨0, [], Nat.zero_le _, by omega, rfl, rfl, ⟨Below.refl _ w⟩, ⟨Kd.R_nil _ _ _ _ _⟩, ⟨rfl⟩⟩
  case round =>
    obtain ⟨kk, out, hkk, hg, rfl, hol, BW, HO, HE⟩ := hrel
    by_cases hlt : kk < ls.length
    · obtain ⟨ad, A', c', rfl, hcell0, hc', hrow0⟩ := C_at_row hr kk hlt
      have hcell := pw_cell_below BW.out hcell0
      have hcall := hf kk (ls.getD kk []) A' c' wr BW.out hlt rfl (C_step hrow0 BW.out) hc'
      have HE' := Aside0.mk (show (out ++ [F kk (ls.getD kk [])]) ++ mp F (kk + 1) (ls.drop (kk + 1)) = mp F 0 ls by rw [List.append_assoc, List.singleton_append, ← mp_drop F ls [] kk hlt]; exact HE.out)
      clear hcell0 hrow0 HE hf hr
      generalize ls.getD kk [] = x at hcell hcall HE' hc'
      generalize F kk x = y at hcall HE'
      go_wp2_with (first | (go_at_fn g; refine hcall.mono ?_; rintro e w1 ⟨rfl, h2⟩; have n2 := Aside0.mk h2; clear h2) | ((with_reducible refine gate_builtin (b := .append) (xs := #[.tmp 15, .tmp 20]) rfl ?_); at_builtin; refine R_push (Kd.int .i64) 25 3 (.int .i64 0) 8 rfl rfl Tryz.underlying25 infoI rfl (by decide) (by decide) _ out y [.int .i64 y] rfl rfl rfl (xR_step HO.out n2.out) (below_then BW.out BW.out.size n2.out) (by omega) ?_; intro v1 w2 ho hb hgr hat; have n3 := Aside0.mk ho; have n4 := Aside0.mk hb; clear ho hb hgr hat))
      go_roundg (ls.length - (kk + 1))
      case measure => omega
      case rel => exact ⟨kk + 1, out ++ [y], by omega, by omega, by go_num, by simp [hol], n4, n3, HE'⟩
    · have hk : kk = ls.length := by omega
      have ho : out = mp F 0 ls := by have h := HE.out; rw [hk, List.drop_length] at h; simpa [mp] using h
      clear hf hr
      subst ho
      go_wp2
      go_ret
      exact ⟨_, rfl, HO.out, BW.out⟩
theorem each_bool.calls (g : Nat) (cb : Array Value) (F : Nat → List XE → Bool) (A : Option Addr) (c : Nat) (ls : List (List XE)) (w : World)
    (eg : ∀ args w, (callFunc g args).run Tryz.prog w = .ok (.enter g args) w)
    (hr : Kd.C (Kd.slice 61 kXE) w A ls.length ls) (hc : ls.length ≤ c) (hl : ls.length ≤ 1048576)
    (hf : ∀ (i : Nat) (x : List XE) (A' : Option Addr) (c' : Nat) (W : World), Below w.heap.size w W → i < ls.length → x = ls.getD i [] → Kd.C kXE W A' x.length x → x.length ≤ c' → Calls Tryz.prog g (#[.int .i64 i, .slice A' x.length c'] ++ cb) W (Ret (.bool (F i x)) W)) :
    Calls Tryz.prog 54 #[.slice A ls.length c, .func (.func g) #[] cb] w (RetR Kd.bool 4 (mp F 0 ls) w) := by
  have hmax := Kd.C_max hr
  go_enter Tryz.func54, Tryz.ntmps54
  go_wp2
  go_loopg [5, 10] ls.length (fun gg s5 s10 wr => ∃ (kk : Nat) (out : List Bool), kk ≤ ls.length ∧ ls.length - kk ≤ gg ∧ s10 = .int .i64 kk ∧ out.length = kk ∧ Aside0 (Below w.heap.size w wr) ∧ Aside0 (Kd.R Kd.bool 4 wr w.heap.size (fun _ => True) s5 out) ∧ Aside0 (out ++ mp F kk (ls.drop kk) = mp F 0 ls))
  case atStart => exact ⟨0, [], Nat.zero_le _, by omega, rfl, rfl, ⟨Below.refl _ w⟩, ⟨Kd.R_nil _ _ _ _ _⟩, ⟨rfl⟩⟩
  case round =>
    obtain ⟨kk, out, hkk, hg, rfl, hol, BW, HO, HE⟩ := hrel
    by_cases hlt : kk < ls.length
    · obtain ⟨ad, A', c', rfl, hcell0, hc', hrow0⟩ := C_at_row hr kk hlt
      have hcell := pw_cell_below BW.out hcell0
      have hcall := hf kk (ls.getD kk []) A' c' wr BW.out hlt rfl (C_step hrow0 BW.out) hc'
      have HE' := Aside0.mk (show (out ++ [F kk (ls.getD kk [])]) ++ mp F (kk + 1) (ls.drop (kk + 1)) = mp F 0 ls by rw [List.append_assoc, List.singleton_append, ← mp_drop F ls [] kk hlt]; exact HE.out)
      clear hcell0 hrow0 HE hf hr
      generalize ls.getD kk [] = x at hcell hcall HE' hc'
      generalize F kk x = y at hcall HE'
      go_wp2_with (first | (go_at_fn g; refine hcall.mono ?_; rintro e w1 ⟨rfl, h2⟩; have n2 := Aside0.mk h2; clear h2) | ((with_reducible refine gate_builtin (b := .append) (xs := #[.tmp 15, .tmp 20]) rfl ?_); at_builtin; refine R_push Kd.bool 97 4 (.bool false) 1 rfl rfl Tryz.underlying97 infoB rfl (by decide) (by decide) _ out y [.bool y] rfl rfl rfl (xR_step HO.out n2.out) (below_then BW.out BW.out.size n2.out) (by omega) ?_; intro v1 w2 ho hb hgr hat; have n3 := Aside0.mk ho; have n4 := Aside0.mk hb; clear ho hb hgr hat))
      go_roundg (ls.length - (kk + 1))
      case measure => omega
      case rel => exact ⟨kk + 1, out ++ [y], by omega, by omega, by go_num, by simp [hol], n4, n3, HE'⟩
    · have hk : kk = ls.length := by omega
      have ho : out = mp F 0 ls := by have h := HE.out; rw [hk, List.drop_length] at h; simpa [mp] using h
      clear hf hr
      subst ho
      go_wp2
      go_ret
      exact ⟨_, rfl, HO.out, BW.out⟩
end Go.Proofs.YtdplnbmioioniaaGreat.Pq
end
section
namespace Go.Proofs.YtdplnbmioioniaaGreat.Pq
open Go.RowKit Go.Shelf Go.Proofs.YtdplnbmioioniaaGreatW.PrintWords Go.Proofs.YtdplnbmioioniaaGreatW.PrintLast Go.Proofs.YtdplnbmioioniaaGreatW.PrintMore
set_option linter.unusedVariables false
set_option linter.unusedSimpArgs false
set_option maxHeartbeats 2000000
set_option maxRecDepth 100000
attribute [local go_sem high] eqSec
attribute [local irreducible] eqS
def dif (xs ys : List SS) : Nat → Nat → List Int
  | 0, _ => []
  | n + 1, k => if eqS (xs.getD k z59) (ys.getD k z59) then dif xs ys n (k + 1) else (k : Int) :: dif xs ys n (k + 1)
def encI (x : Int) : Array Value := #[.int .i64 x]
theorem C_at_sec {w : World} {A : Option Addr} {n : Nat} {xs : List SS} (h : Kd.C kSS w A n xs) (i : Nat) (hi : i < n) : ∃ ad, A = some ad ∧ w.cell? (ad.add (i * 8)) = some (.int .u8 (xs.getD i z59).f0) ∧ w.cell? ⟨(ad.add (i * 8)).block, (ad.add (i * 8)).off + 1, none⟩ = some (.int .u8 (xs.getD i z59).f1) ∧ w.cell? ⟨(ad.add (i * 8)).block, (ad.add (i * 8)).off + 2, none⟩ = some (.int .u8 (xs.getD i z59).f2) ∧ w.cell? ⟨(ad.add (i * 8)).block, (ad.add (i * 8)).off + 3, none⟩ = some (.int .u8 (xs.getD i z59).f3) ∧ w.cell? ⟨(ad.add (i * 8)).block, (ad.add (i * 8)).off + 4, none⟩ = some (.int .u8 (xs.getD i z59).f4) ∧ w.cell? ⟨(ad.add (i * 8)).block, (ad.add (i * 8)).off + 5, none⟩ = some (.int .u8 (xs.getD i z59).f5) ∧ w.cell? ⟨(ad.add (i * 8)).block, (ad.add (i * 8)).off + 6, none⟩ = some (.int .u8 (xs.getD i z59).f6) ∧ w.cell? ⟨(ad.add (i * 8)).block, (ad.add (i * 8)).off + 7, none⟩ = some (.int .u8 (xs.getD i z59).f7) := by
  have := at_T59 h (i : Int) (by omega) (by omega)
  simpa [rd_T59] using this
theorem differing_all (Ba Bb : Nat) (A B : Option Addr) (ca cb : Nat) (xs ys : List SS) (n0 w : World)
    (ha : w.heap[Ba]? = some (.cells #[.slice A xs.length ca] 56 (0, 0))) (hb : w.heap[Bb]? = some (.cells #[.slice B ys.length cb] 56 (0, 0)))
    (hra : Kd.C kSS n0 A xs.length xs) (hrb : Kd.C kSS n0 B ys.length ys) (hl : ys.length = xs.length) :
    SeqAll Tryz.prog 91 #[.pointer (some ⟨Ba, 0, none⟩), .pointer (some ⟨Bb, 0, none⟩)] encI [] [56] (fun W => Below n0.heap.size n0 W) (fun l => l = dif xs ys xs.length 0) (xs.length + 1) w := by
  intro l J W hW hJ hK hY h0
  have ha' := Aside0.mk ((hW.block _ (blk_lt ha)).trans ha)
  have hb' := Aside0.mk ((hW.block _ (blk_lt hb)).trans hb)
  have HRA := Aside0.mk hra
  have HRB := Aside0.mk hrb
  have HK := Aside0.mk hK
  have HY := Aside0.mk hY
  have HJ := Aside0.mk hJ
  have hmax := Kd.C_max hra
  have haC : W.cell? ⟨Ba, 0, none⟩ = some (.slice A xs.length ca) := (blk_cell ha'.out 0).trans rfl
  refine callsIn_of_wp Tryz.func91 rfl trivial ?_ rfl
  simp only [Tryz.ntmps91, List.size_toArray, List.length_cons, List.length_nil, Nat.reduceAdd, Nat.reduceSub, Array.replicate_succ, Array.replicate_zero, List.push_toArray, List.append_toArray, List.nil_append, List.cons_append]
  clear ha hb hra hrb hK hY hJ
  gi_wp2
  clear haC
  gi_loopw [7] (fun s7 wr => ∃ (kk : Nat) (pre : List Int), s7 = .int .i64 kk ∧ kk ≤ xs.length ∧ pre.length ≤ kk ∧ Aside0 (pre ++ dif xs ys (xs.length - kk) kk = dif xs ys xs.length 0) ∧ Aside0 (J pre wr) ∧ Aside0 (wr.heap[Ba]? = some (.cells #[.slice A xs.length ca] 56 (0, 0))) ∧ Aside0 (wr.heap[Bb]? = some (.cells #[.slice B ys.length cb] 56 (0, 0))))
    (fun s7 _ => xs.length - (intOf s7).toNat)
  case atStart => exact ⟨0, [], rfl, Nat.zero_le _, Nat.le_refl _, ⟨rfl⟩, ⟨h0⟩, ha', hb'⟩
  case round =>
    obtain ⟨kk, pre, rfl, hkk, hpl, HE, HJ2, HA, HB⟩ := hrel
    have haC : wr.cell? ⟨Ba, 0, none⟩ = some (.slice A xs.length ca) := (blk_cell HA.out 0).trans rfl
    have hbC : wr.cell? ⟨Bb, 0, none⟩ = some (.slice B ys.length cb) := (blk_cell HB.out 0).trans rfl
    by_cases hlt : kk < xs.length
    · have hbw := HK.out _ _ HJ2.out
      have hlt2 : kk < ys.length := by omega
      obtain ⟨ad, rfl, x0, x1, x2, x3, x4, x5, x6, x7⟩ := C_at_sec (C_step HRA.out hbw) kk hlt
      obtain ⟨bd, rfl, y0, y1, y2, y3, y4, y5, y6, y7⟩ := C_at_sec (C_step HRB.out hbw) kk hlt2
      have hd : dif xs ys (xs.length - kk) kk = if eqS (xs.getD kk z59) (ys.getD kk z59) then dif xs ys (xs.length - (kk + 1)) (kk + 1) else (kk : Int) :: dif xs ys (xs.length - (kk + 1)) (kk + 1) := by
        rw [show xs.length - kk = (xs.length - (kk + 1)) + 1 by omega, dif]
      have hd' := Aside0.mk hd
      clear hd hbw
      generalize xs.getD kk z59 = x at hd' x0 x1 x2 x3 x4 x5 x6 x7
      generalize ys.getD kk z59 = y at hd' y0 y1 y2 y3 y4 y5 y6 y7
      obtain ⟨xf0, xf1, xf2, xf3, xf4, xf5, xf6, xf7⟩ := x
      obtain ⟨yf0, yf1, yf2, yf3, yf4, yf5, yf6, yf7⟩ := y
      dsimp only at x0 x1 x2 x3 x4 x5 x6 x7 y0 y1 y2 y3 y4 y5 y6 y7
      have t0 : (kk : Int) < (xs.length : Int) := by omega
      have t1 : (kk : Int) < (ys.length : Int) := by omega
      cases hq : eqS ⟨xf0, xf1, xf2, xf3, xf4, xf5, xf6, xf7⟩ ⟨yf0, yf1, yf2, yf3, yf4, yf5, yf6, yf7⟩ with
      | true =>
        gi_wp2
        refine wpIn_wide.2 ?_
        go_quiet (fail)
        all_goals
          gi_wp2
          go_roundw
          case rel => exact ⟨kk + 1, pre, by simp, by omega, by omega, ⟨by have h := HE.out; rw [hd'.out, if_pos hq] at h; exact h⟩, ⟨HJ.out.below HJ2.out (pw_below_drewN (Below.refl _ _) _)⟩, ⟨HA.out⟩, ⟨HB.out⟩⟩
          case measure => simp [intOf]; omega
      | false =>
        obtain ⟨fn, tmps, assign, body, hy, hR⟩ := HY.out pre (kk : Int) wr.drew (HJ.out.drew HJ2.out) (by omega) ⟨_, by have h := HE.out; rw [hd'.out, hq] at h; simpa using h⟩
        dsimp only [encI] at hy
        gi_wp2
        gi_region_with (refine hR.mono ?_; rintro e W3 ⟨rfl, hJ3, hk3⟩)
        all_goals
          gi_wp2
          go_roundw
          case rel => exact ⟨kk + 1, pre ++ [(kk : Int)], by simp, by omega, by simp only [List.length_append, List.length_singleton]; omega, ⟨by have h := HE.out; rw [hd'.out, hq] at h; simpa using h⟩, ⟨hJ3⟩, ⟨hk3.2 _ _ _ _ HA.out (by simp)⟩, ⟨hk3.2 _ _ _ _ HB.out (by simp)⟩⟩
          case measure => simp [intOf]; omega
    · have : kk = xs.length := by omega
      subst this
      gi_wp2
      go_end0
      exact ⟨⟨_, rfl⟩, pre, by have h := HE.out; rw [Nat.sub_self] at h; simpa [dif] using h, HJ2.out⟩
end Go.Proofs.YtdplnbmioioniaaGreat.Pq
end
section
namespace Go.Proofs.YtdplnbmioioniaaGreat.Pq
open Go.RowKit Go.Shelf Go.Proofs.YtdplnbmioioniaaGreatW.PrintWords Go.Proofs.YtdplnbmioioniaaGreatW.PrintLast Go.Proofs.YtdplnbmioioniaaGreatW.PrintMore
set_option linter.unusedVariables false
set_option linter.unusedSimpArgs false
set_option maxHeartbeats 2000000
set_option maxRecDepth 100000
theorem infoXE : (Tryz.prog.info? 61).map (fun i => (i.zero, i.size, i.bytes)) = some (some (.agg #[.int .i64 0, .int .i64 0]), 2, 16) := by kernel_rfl
def pd (xs ys : List SS) (i : Int) : Bool := !eqS (xs.getD i.toNat z59) (ys.getD i.toNat z59)
theorem dif_bump (xs ys : List SS) : ∀ n k, (dif xs ys n k).foldl bump (canon (pd xs ys) k) = canon (pd xs ys) (k + n)
  | 0, k => rfl
  | n + 1, k => by
    have e : canon (pd xs ys) (k + 1) = if eqS (xs.getD k z59) (ys.getD k z59) then canon (pd xs ys) k else bump (canon (pd xs ys) k) k := by
      show (if pd xs ys (k : Int) then bump (canon (pd xs ys) k) k else canon (pd xs ys) k) = _
      unfold pd
      rw [Int.toNat_natCast]
      cases eqS (xs.getD k z59) (ys.getD k z59) <;> rfl
    have ih := dif_bump xs ys n (k + 1)
    rw [e] at ih
    unfold dif
    cases h : eqS (xs.getD k z59) (ys.getD k z59)
    · rw [h] at ih
      simp only [Bool.false_eq_true, if_false, List.foldl_cons] at ih ⊢
      rw [ih]; congr 1; omega
    · rw [h] at ih
      simp only [if_true] at ih ⊢
      rw [ih]; congr 1; omega
theorem dif_mem (xs ys : List SS) : ∀ n k x, x ∈ dif xs ys n k → (k : Int) ≤ x ∧ x < k + n
  | 0, k, x, h => by cases h
  | n + 1, k, x, h => by
    unfold dif at h
    split at h
    · have := dif_mem xs ys n (k + 1) x h; omega
    · rcases List.mem_cons.1 h with rfl | h
      · omega
      · have := dif_mem xs ys n (k + 1) x h; omega
def lastE : List XE → Int
  | [] => -1
  | [x] => x.f0 + x.f1
  | _ :: y :: r => lastE (y :: r)
theorem bump_hit : ∀ (l : List XE) (i : Int), l ≠ [] → lastE l = i → bump l i = l.set (l.length - 1) ⟨(l.getD (l.length - 1) z61).f0, (l.getD (l.length - 1) z61).f1 + 1⟩
  | [], _, h, _ => absurd rfl h
  | [x], i, _, h => by simp only [bump]; rw [if_pos (show x.f0 + x.f1 = i from h)]; rfl
  | x :: y :: r, i, _, h => by
    have := bump_hit (y :: r) i (by simp) h
    simp only [bump]
    rw [this]
    rfl
theorem bump_miss : ∀ (l : List XE) (i : Int), (l = [] ∨ lastE l ≠ i) → bump l i = l ++ [⟨i, 1⟩]
  | [], _, _ => rfl
  | [x], i, h => by simp only [bump]; rw [if_neg (show ¬ x.f0 + x.f1 = i from h.resolve_left (by simp))]; rfl
  | x :: y :: r, i, h => by
    have := bump_miss (y :: r) i (.inr (h.resolve_left (by simp)))
    simp only [bump]; rw [this]; rfl
theorem lastE_bump : ∀ (l : List XE) (i : Int), lastE (bump l i) = i + 1
  | [], i => rfl
  | [x], i => by
    simp only [bump]
    split
    · rename_i h; show x.f0 + (x.f1 + 1) = i + 1; omega
    · rfl
  | x :: y :: r, i => by
    have h := lastE_bump (y :: r) i
    simp only [bump]
    cases hb : bump (y :: r) i with
    | nil => exact absurd hb (bump_ne _ _)
    | cons z t => rw [hb] at h; exact h
theorem bump_len (l : List XE) (i : Int) : (bump l i).length ≤ l.length + 1 := by
  by_cases h : l = [] ∨ lastE l ≠ i
  · rw [bump_miss l i h]; simp
  · have h1 : l ≠ [] := fun e => h (.inl e)
    have h2 : lastE l = i := Decidable.not_not.1 fun e => h (.inr e)
    rw [bump_hit l i h1 h2, List.length_set]; omega
theorem foldl_bump_len : ∀ (l : List Int) (o : List XE), (l.foldl bump o).length ≤ o.length + l.length
  | [], o => by simp
  | x :: r, o => by
    have h1 := foldl_bump_len r (bump o x)
    have h2 := bump_len o x
    simp only [List.foldl_cons, List.length_cons]; omega
theorem canon_step (xs ys : List SS) (k : Nat) : canon (pd xs ys) (k + 1) = if eqS (xs.getD k z59) (ys.getD k z59) then canon (pd xs ys) k else bump (canon (pd xs ys) k) k := by
  show (if pd xs ys (k : Int) then bump (canon (pd xs ys) k) k else canon (pd xs ys) k) = _
  unfold pd
  rw [Int.toNat_natCast]
  cases eqS (xs.getD k z59) (ys.getD k z59) <;> rfl
theorem dif_pre (xs ys : List SS) : ∀ (n k : Nat) (pre t : List Int), pre ++ t = dif xs ys n k → ∃ m, m ≤ n ∧ pre.foldl bump (canon (pd xs ys) k) = canon (pd xs ys) (k + m)
  | _, k, [], _, _ => ⟨0, Nat.zero_le _, rfl⟩
  | 0, k, x :: r, t, h => by cases h
  | n + 1, k, x :: r, t, h => by
    unfold dif at h
    have e := canon_step xs ys k
    cases hq : eqS (xs.getD k z59) (ys.getD k z59)
    · rw [hq] at h e
      simp only [Bool.false_eq_true, if_false, List.cons_append, List.cons.injEq] at h e
      obtain ⟨m, hm, ih⟩ := dif_pre xs ys n (k + 1) r t h.2
      refine ⟨m + 1, by omega, ?_⟩
      rw [List.foldl_cons, h.1, ← e, ih]; congr 1; omega
    · rw [hq] at h e
      simp only [if_true] at h e
      obtain ⟨m, hm, ih⟩ := dif_pre xs ys n (k + 1) (x :: r) t h
      refine ⟨m + 1, by omega, ?_⟩
      rw [← e, ih]; congr 1; omega
theorem canon_elem (p : Int → Bool) (n : Nat) (i : Nat) (hi : i < (canon p n).length) : 0 ≤ ((canon p n).getD i z61).f1 ∧ ((canon p n).getD i z61).f1 ≤ n := by
  have pos : ∀ (l : List XE) (lo : Int), Canon lo l → ∀ x ∈ l, 0 < x.f1 := by
    intro l
    induction l with
    | nil => intro _ _ x hx; cases hx
    | cons y r ih =>
      intro lo h x hx
      rcases List.mem_cons.1 hx with rfl | hx
      · exact h.2.1
      · exact ih _ h.2.2 x hx
  have hm : (canon p n).getD i z61 ∈ canon p n := by rw [List.getD_eq_getElem?_getD, List.getElem?_eq_getElem hi]; exact List.getElem_mem hi
  generalize (canon p n).getD i z61 = x at hm
  have h1 := pos _ _ (canon_spec p n).1 x hm
  have h2 := ((canon_spec p n).2.1 (x.f0 + x.f1 - 1)).1 ⟨x, hm, by unfold hasX; omega⟩
  have h3 := ((canon_spec p n).2.1 x.f0).1 ⟨x, hm, by unfold hasX; omega⟩
  omega
def ExtAt (w0 : World) (Bo Be : Nat) (pre : List Int) (W : World) : Prop :=
  ∃ v, W.heap[Bo]? = some (.cells #[v] 57 (0, 0)) ∧ W.heap[Be]? = some (.cells #[.int .i64 (lastE (pre.foldl bump []))] 3 (0, 0)) ∧
    Kd.R kXE 61 W w0.heap.size (fun _ => True) v (pre.foldl bump []) ∧ Below w0.heap.size w0 W
theorem extAt_abides (w0 : World) (Bo Be B' : Nat) (hB : w0.heap.size ≤ B') : AbL [] B' (ExtAt w0 Bo Be) := by
  rintro s W W' row ⟨v, hv, he, hr, hb⟩ hg hrow
  have hrow' : ∀ r, row = some r → ∃ o, W.heap[r]? = some o ∧ (o.isCells = false ∨ isT [] o) := fun r e => (hrow r e).2
  exact ⟨v, xblk_grown hg hv (by simp) hrow', xblk_grown hg he (by simp) hrow', xR_grown hr hg (fun q hq => by simp) hrow', hb.grown hg hb.size (fun k e => Nat.le_trans hB (hrow k e).1)⟩
theorem image_differing.calls (A B : Option Addr) (n ca m cb : Nat) (w : World) : Calls Tryz.prog 69 #[.slice A n ca, .slice B m cb] w fun e w' =>
    e = .returned (.func (.func 91) #[] #[.pointer (some ⟨w.heap.size, 0, none⟩), .pointer (some ⟨w.heap.size + 1, 0, none⟩)]) ∧
    w' = (w.alloc (.cells #[.slice A n ca] 56)).alloc (.cells #[.slice B m cb] 56) := by
  go_enter Tryz.func69, Tryz.ntmps69
  go_wp2
  go_ret
  exact ⟨by simp, rfl⟩
def image_extents.f (l0 l1 : List SS) : Option (List XE) := if l1.length = l0.length ∧ l0.length ≤ 1048576 then some (canon (pd l0 l1) l0.length) else none
theorem image_extents.calls (A0 : Option Addr) (c0 : Nat) (l0 : List SS) (A1 : Option Addr) (c1 : Nat) (l1 : List SS) (r : List XE) (w : World) (hr0 : Kd.C kSS w A0 l0.length l0) (hc0 : l0.length ≤ c0) (hr1 : Kd.C kSS w A1 l1.length l1) (hc1 : l1.length ≤ c1) (h : image_extents.f l0 l1 = some r) :
    Calls Tryz.prog 38 #[.slice A0 l0.length c0, .slice A1 l1.length c1] w fun e w' => ∃ v0_ : Value, e = .returned (v0_) ∧ Kd.R kXE 61 w' w.heap.size (fun _ => True) v0_ r ∧ Below w.heap.size w w' := by
  unfold image_extents.f at h
  by_cases hnk : ¬ (l1.length = l0.length ∧ l0.length ≤ 1048576)
  · rw [if_neg hnk] at h; cases h
  have hk := Decidable.not_not.1 hnk
  rw [if_pos hk] at h
  clear hnk
  cases h
  obtain ⟨hl, hk⟩ := hk
  have hfin := Aside0.mk (show (dif l0 l1 l0.length 0).foldl bump [] = canon (pd l0 l1) l0.length by simpa [canon] using dif_bump l0 l1 l0.length 0)
  refine (callsIn_wide (n := 3)).1 ?_
  refine callsIn_of_wp_marks Tryz.func38 rfl trivial ?_ rfl
  simp only [Tryz.ntmps38, List.size_toArray, List.length_cons, List.length_nil, Nat.reduceAdd, Nat.reduceSub, Array.replicate_succ, Array.replicate_zero, List.push_toArray, List.append_toArray, List.nil_append, List.cons_append]
  gi_wp2_with (refine ⟨trivial, ?_⟩; gi_at_call 69; refine (callsIn_wide.2 (image_differing.calls _ _ _ _ _ _ _)).mono ?_; rintro e w1 ⟨rfl, rfl⟩)
  obtain ⟨W4, hW4⟩ : ∃ W4, ((((w.alloc (.cells #[.slice none 0 0] 57)).alloc (.cells #[.int .i64 (-1)] 3)).alloc (.cells #[.slice A0 l0.length c0] 56)).alloc (.cells #[.slice A1 l0.length c1] 56)) = W4 := ⟨_, rfl⟩
  have g0 : W4.heap[w.heap.size]? = some (.cells #[.slice none 0 0] 57 (0, 0)) := by
    rw [← hW4]; exact (Below.heap_alloc _ _ _ (by simp <;> omega)).trans ((Below.heap_alloc _ _ _ (by simp <;> omega)).trans ((Below.heap_alloc _ _ _ (by simp)).trans (heap_alloc_new w _)))
  have g1 : W4.heap[w.heap.size + 1]? = some (.cells #[.int .i64 (-1)] 3 (0, 0)) := by
    rw [← hW4]; refine (Below.heap_alloc _ _ _ (by simp <;> omega)).trans ((Below.heap_alloc _ _ _ (by simp)).trans ?_)
    simpa using heap_alloc_new (w.alloc (.cells #[.slice none 0 0] 57)) (.cells #[.int .i64 (-1)] 3 (0, 0))
  have g2 : W4.heap[w.heap.size + 1 + 1]? = some (.cells #[.slice A0 l0.length c0] 56 (0, 0)) := by
    rw [← hW4]; refine (Below.heap_alloc _ _ _ (by simp)).trans ?_
    simpa using heap_alloc_new ((w.alloc (.cells #[.slice none 0 0] 57)).alloc (.cells #[.int .i64 (-1)] 3)) (.cells #[.slice A0 l0.length c0] 56 (0, 0))
  have g3 : W4.heap[w.heap.size + 1 + 1 + 1]? = some (.cells #[.slice A1 l1.length c1] 56 (0, 0)) := by
    rw [← hW4, hl]
    simpa using heap_alloc_new (((w.alloc (.cells #[.slice none 0 0] 57)).alloc (.cells #[.int .i64 (-1)] 3)).alloc (.cells #[.slice A0 l0.length c0] 56)) (.cells #[.slice A1 l0.length c1] 56 (0, 0))
  have hb4 : Below w.heap.size w W4 := by rw [← hW4]; exact below_alloc (below_alloc (below_alloc (below_alloc (Below.refl _ _) _) _) _) _
  have hseq := differing_all (w.heap.size + 1 + 1) (w.heap.size + 1 + 1 + 1) A0 A1 c0 c1 l0 l1 w W4 g2 g3 hr0 hr1 hl
  rw [hW4]
  have hW4s : W4.heap.size = w.heap.size + 4 := by rw [← hW4]; simp
  clear hW4 hr0 hr1
  refine rangeAll (gf := 91) (lb := _) rfl (enters_of Tryz.func91 (by kernel_rfl) rfl) (w0 := W4) hseq (Below.refl _ _) (fun _ => rfl) (ExtAt w w.heap.size (w.heap.size + 1)) (extAt_abides w _ _ _ hb4.size) (fun s W1 h => by obtain ⟨_, _, _, _, h⟩ := h; exact h) ⟨.slice none 0 0, g0, g1, Kd.R_nil _ _ _ _ _, hb4⟩
    (fun x a' W => a' = { tmps := #[.slice A0 l0.length c0, .slice A1 l0.length c1, undef, undef, .slice none 0 0, .pointer (some ⟨w.heap.size, 0, none⟩), .pointer (some ⟨w.heap.size + 1, 0, none⟩), .int .i64 x, .slice A0 l0.length c0, .slice A1 l0.length c1, .func (.func 91) #[] #[.pointer (some ⟨w.heap.size + 1 + 1, 0, none⟩), .pointer (some ⟨w.heap.size + 1 + 1 + 1, 0, none⟩)], .int .i64 x, undef, undef, undef, undef, undef, undef, undef, undef, undef, undef, undef, undef, undef, undef, undef, undef, undef, undef, undef, undef, undef], defers := [] }) ?_ ?_ ?_ ?_
  · rintro x a' s W W' row ha hg hrow
    exact ha
  · rintro l pre x W K hI hlen _ hK
    rw [show ((#[11] : Array Tmp).zip (encI x)) = #[(11, .int .i64 x)] by simp [encI]]
    simp only [List.foldl_toArray', List.foldl_cons, List.foldl_nil, List.size_toArray, List.length_cons, List.length_nil, List.setIfInBounds_toArray, List.set_cons_succ, List.set_cons_zero]
    gi_wp2_with (rw [Oper.semAt_eq _ _ _ (fun c h => by cases h)]; go_simp; try go_bits)
    exact hK _ _ (KeepsFrom.refl _ _) (KeepT.refl _ _) hI rfl
  · rintro l pre x a' W hll ⟨v, hv, he, hr, hb⟩ rfl hlen ⟨t, ht⟩
    have hx := dif_mem l0 l1 l0.length 0 x (by rw [← ht]; simp)
    obtain ⟨m, hm, hpre⟩ := dif_pre l0 l1 l0.length 0 pre (x :: t) ht
    have hel := Aside0.mk (canon_elem (pd l0 l1) m)
    rw [show canon (pd l0 l1) 0 = [] from rfl, Nat.zero_add] at hpre
    rw [← hpre] at hel
    have hsn : (pre ++ [x]).foldl bump [] = bump (pre.foldl bump []) x := by simp
    have hlb := foldl_bump_len pre []
    have hle2 := Aside0.mk (lastE_bump (pre.foldl bump []) x)
    have HS := Aside0.mk hsn
    clear ht hpre hsn g0 g1 g2 g3 hseq
    unfold endRoundT ExtAt
    simp only [HS.out]
    clear HS
    generalize pre.foldl bump [] = o at hv he hr hel hlb hle2
    simp only [List.length_nil, Nat.zero_add] at hlb
    have hv0 : W.cell? ⟨w.heap.size, 0, none⟩ = some v := (blk_cell hv 0).trans rfl
    have hf0 : W.frozen? ⟨w.heap.size, 0, none⟩ = false := blk_frozen hv 0
    have he0 : W.cell? ⟨w.heap.size + 1, 0, none⟩ = some (.int .i64 (lastE o)) := (blk_cell he 0).trans rfl
    have hfe : W.frozen? ⟨w.heap.size + 1, 0, none⟩ = false := blk_frozen he 0
    obtain ⟨A, c, rfl, hc, hC⟩ := Kd.R_reads hr
    obtain ⟨hx1, hx2⟩ := hx
    have hx3 : -9223372036854775808 ≤ x + 1 := by omega
    have hx4 : x + 1 ≤ 9223372036854775807 := by omega
    by_cases hit : x = lastE o
    · have hne : o ≠ [] := fun e => by subst e; simp [lastE] at hit; omega
      have hpos : 0 < o.length := List.length_pos_iff.2 hne
      obtain ⟨ad, rfl, hc0, hc1⟩ := C_at_ext hC (o.length - 1) (by omega)
      have hbd := hel.out (o.length - 1) (by omega)
      have hbh := Aside0.mk (bump_hit o x hne hit.symm)
      have HIT := Aside0.mk hit
      rw [← hit] at he he0
      generalize o.getD (o.length - 1) z61 = q at hc0 hc1 hbd hbh
      clear hit hne
      obtain ⟨hb1, hb2⟩ := hbd
      have hw1 : -9223372036854775808 ≤ q.f1 + 1 := by omega
      have hw2 : q.f1 + 1 ≤ 9223372036854775807 := by omega
      obtain ⟨g, cur, hg, hh⟩ : ∃ g cur, ad = ⟨g, 0, none⟩ ∧ W.heap[g]? = some (.cells cur 61 (0, 0)) := by
        obtain ⟨_, inner, ho, _⟩ := hr
        obtain ⟨cells, hcl⟩ := own_typed ho ad.block rfl
        rcases ho.2 with ⟨hv', _⟩ | ⟨g', cap', cur', hv', _⟩
        · cases hv'
        · cases hv'; exact ⟨g', cells, rfl, hcl⟩
      have HG := Aside0.mk hg
      have hfz : W.frozen? ⟨(ad.add ((o.length - 1) * 2)).block, (ad.add ((o.length - 1) * 2)).off + 1, none⟩ = false := by rw [hg, add_plain]; exact blk_frozen hh _
      clear hg
      gi_wp2_with (rw [Oper.semAt_eq _ _ _ (fun c h => by cases h)]; go_simp; try go_bits)
      have hg := HG.out
      subst hg
      have hadd : Addr.add ⟨g, 0, none⟩ ((o.length - 1) * 2) = ⟨g, (o.length - 1) * 2, none⟩ := by rw [add_plain]
      rw [hadd] at hc0 hc1 ⊢
      dsimp only at hc1 ⊢
      have hgb : w.heap.size ≤ g := by obtain ⟨_, inner, ho, _⟩ := hr; exact own_base ho g rfl
      obtain ⟨hR1, hG1⟩ := Kd.R_seg hr ((o.length - 1 : Nat) : Int) (by omega) (by omega) (c := [.int .i64 q.f0, .int .i64 q.f1]) (seg := [.int .i64 (q.f1 + 1)]) (j := 1) (x' := (⟨q.f0, q.f1 + 1⟩ : XE)) (okp := fun _ => False) rfl
        (fun j u hu => by
          match j, hu with
          | 0, hu => cases hu; exact hc0
          | 1, hu => cases hu; exact hc1
          | j + 2, hu => simp at hu) (by show 1 + 1 ≤ 2; decide) ⟨[.int .i64 q.f0], [.int .i64 (q.f1 + 1)], rfl, rfl, rfl⟩ (fun _ h => h.elim)
      have e1 : W.setCells g ((((o.length - 1 : Nat) : Int)).toNat * kXE.sz + 1) [.int .i64 (q.f1 + 1)] = W.setCell ⟨g, (o.length - 1) * 2 + 1, none⟩ (.int .i64 (q.f1 + 1)) := rfl
      rw [e1] at hR1
      rw [show ((o.length - 1 : Nat) : Int).toNat = o.length - 1 from Int.toNat_natCast _, ← hbh.out] at hR1
      have hBe : w.heap.size + 1 ≠ g := fun e => by rw [← e, he] at hh; cases hh
      have hBo : w.heap.size ≠ g := fun e => by rw [← e, hv] at hh; cases hh
      have he1 := blk_far he (p := ⟨g, (o.length - 1) * 2 + 1, none⟩) hBe (.int .i64 (q.f1 + 1))
      have hv1 := blk_far hv (p := ⟨g, (o.length - 1) * 2 + 1, none⟩) hBo (.int .i64 (q.f1 + 1))
      refine ⟨((KeepsOthers.setCell _ _ _).trans (KeepsOthers.setCell _ _ _)).from _, (KeepT.set _ hh (by decide) _ _).trans (KeepT.set _ he1 (by decide) 0 _), _, blk_far hv1 (by simp) _, ?_, Kd.R_set hR1 he1 (fun q hq => by simp [show kXE.E = [] from rfl] at hq; subst hq; decide) 0 _, (hb.grown (grownBy_set1 W g _ _) hb.size (fun k e => by cases e; exact hgb)).grown (grownBy_set1 _ (w.heap.size + 1) 0 _) (by simp; exact hb.size) (fun k e => by cases e; omega)⟩
      rw [hle2.out]
      simpa using blk_set he1 0 (.int .i64 (x + 1))
    · have d1 : decide (x = lastE o) = false := decide_eq_false hit
      have hbh := Aside0.mk (bump_miss o x (.inr fun e => hit e.symm))
      have hnb : some w.heap.size ≠ (Value.slice A o.length c).ownBlock := by obtain ⟨_, inner, ho, _⟩ := hr; exact own_ne ho hv (by decide)
      have hnb2 : some (w.heap.size + 1) ≠ (Value.slice A o.length c).ownBlock := by obtain ⟨_, inner, ho, _⟩ := hr; exact own_ne ho he (by decide)
      gi_wp2_with (first | (gi_at_builtin; refine R_push_in kXE (w0 := w) w.heap.size 57 61 (.agg #[.int .i64 0, .int .i64 0]) 16 rfl rfl Tryz.underlying57 infoXE rfl (by decide) (by decide) (.slice A o.length c) o ⟨x, 1⟩ _ rfl rfl ⟨[.int .i64 x], [.int .i64 1], rfl, rfl, rfl⟩ hr hb hb.size (by omega) ?_; intro v1 w1 hr1 hb1 hg1; obtain ⟨A1', c1', rfl, _, _⟩ := Kd.R_reads hr1; have hv1 := (hg1.block _ (blk_lt hv) hnb).trans hv; have he1 := (hg1.block _ (blk_lt he) hnb2).trans he; have hv1c : w1.cell? ⟨w.heap.size, 0, none⟩ = some (.slice A o.length c) := (blk_cell hv1 0).trans rfl; have hf1 := blk_frozen hv1 0; have he1c : w1.cell? ⟨w.heap.size + 1, 0, none⟩ = some (.int .i64 (lastE o)) := (blk_cell he1 0).trans rfl; have hfe1 := blk_frozen he1 0) | (rw [Oper.semAt_eq _ _ _ (fun c h => by cases h)]; go_simp; try go_bits))
      obtain ⟨_, inner, ho, _⟩ := hr
      have hko : KeepsOthers W w1 := ⟨hg1.size, fun k oo hk hc => (hg1.block k (blk_lt hk) fun e => by obtain ⟨cells, hcc⟩ := own_typed ho k e.symm; rw [hk] at hcc; injection hcc with hcc; subst hcc; cases hc).trans hk⟩
      have hv2 := blk_set hv1 0 (.slice A1' (o.length + 1) c1')
      have he2 := blk_far he1 (p := ⟨w.heap.size, 0, none⟩) (show w.heap.size + 1 ≠ w.heap.size by omega) (.slice A1' (o.length + 1) c1')
      have hR2 := Kd.R_set hr1 hv1 (fun q hq => by simp [show kXE.E = [] from rfl] at hq; subst hq; decide) 0 (.slice A1' (o.length + 1) c1')
      refine ⟨((hko.trans (KeepsOthers.setCell _ _ _)).trans (KeepsOthers.setCell _ _ _)).from _, ((KeepT.grown hg1 (fun r e => by obtain ⟨cells, hcc⟩ := own_typed ho r e; exact ⟨_, hcc, fun ⟨_, _, _, he', hm⟩ => by cases he'; exact absurd hm (by decide)⟩)).trans (KeepT.set _ hv1 (by decide) 0 _)).trans (KeepT.set _ he2 (by decide) 0 _), .slice A1' (o.length + 1) c1', ?_, ?_, ?_, (hb1.grown (grownBy_set1 w1 _ 0 _) hb1.size (fun k e => by cases e; exact Nat.le_refl _)).grown (grownBy_set1 _ (w.heap.size + 1) 0 _) (by simp; exact hb1.size) (fun k e => by cases e; omega)⟩
      · simpa using blk_far hv2 (p := ⟨w.heap.size + 1, 0, none⟩) (show w.heap.size ≠ w.heap.size + 1 by omega) (.int .i64 (x + 1))
      · rw [hle2.out]
        simpa using blk_set he2 0 (.int .i64 (x + 1))
      · rw [hbh.out]
        have hR3 := Kd.R_set hR2 he2 (fun q hq => by simp [show kXE.E = [] from rfl] at hq; subst hq; decide) 0 (.int .i64 (x + 1))
        simpa using hR3
  · rintro D xs W hD hS ⟨v, hv, he, hr, hb⟩ hK
    have hv0 : W.cell? ⟨w.heap.size, 0, none⟩ = some v := (blk_cell hv 0).trans rfl
    gi_wp2
    refine ⟨by simp, .inl ⟨_, _, rfl, run_takeDeferred hK, ?_⟩⟩
    have hD' : w.heap.size ≤ D := by omega
    rw [show xs.foldl bump [] = canon (pd l0 l1) l0.length by rw [hS]; exact hfin.out] at hr
    exact ⟨v, results_tmp (t := 4) rfl _ _ _, v, rfl, xR_grown (T := []) hr (grownBy_putObj' W D _) (fun _ _ => by simp) (fun r e => by cases e; exact ⟨_, hK, .inl rfl⟩), hb.grown (grownBy_putObj' W D _) hb.size (fun k e => by cases e; exact hD')⟩
end Go.Proofs.YtdplnbmioioniaaGreat.Pq
end
section
namespace Go.Proofs.YtdplnbmioioniaaGreat.Pq
open Go.RowKit Go.Proofs.YtdplnbmioioniaaGreatW.PrintWords Go.Proofs.YtdplnbmioioniaaGreatW.PrintLast Go.Proofs.YtdplnbmioioniaaGreatW.PrintMore
set_option linter.unusedVariables false
theorem zb {p q : Prop} (h : Aside0 p) (m : p → q := by
    intro h
    repeat (first | (with_reducible first | exact h | apply below_alloc | apply pw_below_drewN | apply below_drew1 | refine below_set ?_ (Aside0.out (by assumption))) | exact h)) : q := m h.out
theorem zk {p q : Prop} (h : Aside0 p) (m : p → q := by
    intro h
    (with_reducible repeat (first | refine blk_drewN ?_ _ | refine blk_drew ?_ | refine blk_alloc ?_ _))
    exact h) : q := m h.out
theorem zkf {p q : Prop} (h : Aside0 p) (m : p → q := by
    intro h
    (with_reducible repeat (first | refine blk_drewN ?_ _ | refine blk_drew ?_ | refine blk_alloc ?_ _ | refine blk_far ?_ (Aside0.out (by assumption)) _))
    exact h) : q := m h.out
theorem zs {p q : Prop} (h : p) (m : p → q := by
    intro h
    (with_reducible repeat (first | apply Kd.S_alloc | apply Kd.S_drewN | apply Kd.S_drew))
    exact h) : q := m h
theorem zr {p q : Prop} (h : p) (m : p → q := by
    intro h
    (with_reducible repeat (first | apply Kd.R_alloc | apply Kd.R_drewN | apply Kd.R_drew))
    exact h) : q := m h
theorem zn {p q : Prop} (h : p) (m : p → q := by
    intro h
    (with_reducible repeat (first | apply Kd.N_alloc | apply Kd.N_drewN | apply Kd.N_drew))
    exact h) : q := m h
theorem zsd {α : Type} {d : Kd α} {e base : Nat} {ok : Nat → Prop} {w w1 : World} {v : Value} {xs : List α} {g t : Nat} {cells : Array Value} (h : Aside0 (Kd.S d e w base ok v xs)) (hb : Aside0 (w.heap[g]? = some (.cells cells t (0, 0)))) (ht : ∀ q, q ∈ e :: d.E → q ≠ t := by decide)
    (m : Kd.S d e w base (fun k => ok k ∧ k ≠ g) v xs → Kd.S d e w1 base (fun k => ok k ∧ k ≠ g) v xs := by
    intro h
    (repeat (first | with_reducible apply Kd.S_alloc | with_reducible apply Kd.S_drewN | with_reducible apply Kd.S_drew | refine Kd.S_far ?_ (fun _ hk => hk.2) _))
    exact h) : Kd.S d e w1 base ok v xs := Kd.S_mono (m (Kd.S_types h.out hb.out ht)) (fun _ hk => hk.1)
theorem zrd {α : Type} {d : Kd α} {e base : Nat} {ok : Nat → Prop} {w w1 : World} {v : Value} {xs : List α} {g t : Nat} {cells : Array Value} (h : Aside0 (Kd.R d e w base ok v xs)) (hb : Aside0 (w.heap[g]? = some (.cells cells t (0, 0)))) (ht : ∀ q, q ∈ e :: d.E → q ≠ t := by decide)
    (m : Kd.R d e w base (fun k => ok k ∧ k ≠ g) v xs → Kd.R d e w1 base (fun k => ok k ∧ k ≠ g) v xs := by
    intro h
    (repeat (first | with_reducible apply Kd.R_alloc | with_reducible apply Kd.R_drewN | with_reducible apply Kd.R_drew | refine Kd.R_far ?_ (fun _ hk => hk.2) _))
    exact h) : Kd.R d e w1 base ok v xs := Kd.R_mono (m (Kd.R_types h.out hb.out ht)) (fun _ hk => hk.1)
theorem zc {p q r : Prop} (h : Aside0 p) (b : Aside0 q) (m : p → q → r := by
    intro h b
    refine Kd.C_below h ?_
    repeat (first | (with_reducible first | exact b | apply below_alloc | apply pw_below_drewN | apply below_drew1 | refine below_set ?_ (Aside0.out (by assumption))) | exact b)) : r := m h.out b.out
theorem zg {w w1 w2 : World} {g : Nat} (hg : g = w2.heap.size) (h : Aside0 (Below w.heap.size w w1)) (m : Below w.heap.size w w1 → Below w.heap.size w w2 := by
    intro h
    repeat (first | (with_reducible first | exact h | apply below_alloc | apply pw_below_drewN | apply below_drew1 | refine below_set ?_ (Aside0.out (by assumption))) | exact h)) : w.heap.size ≤ g := hg ▸ below_size (m h.out)
theorem zl {w1 w2 : World} {g1 g : Nat} {o : Obj} (hg : g = w2.heap.size) (h : Aside0 (w1.heap[g1]? = some o)) (m : w1.heap[g1]? = some o → w2.heap[g1]? = some o := by
    intro h
    (with_reducible repeat (first | refine blk_drewN ?_ _ | refine blk_drew ?_ | refine blk_alloc ?_ _))
    exact h) : g1 ≠ g := hg ▸ Nat.ne_of_lt (blk_lt (m h.out))
theorem zh {w1 w2 : World} {g1 g : Nat} {o : Obj} (hg : g = w2.heap.size) (h : Aside0 (w1.heap[g1]? = some o)) (m : w1.heap[g1]? = some o → w2.heap[g1]? = some o := by
    intro h
    (with_reducible repeat (first | refine blk_drewN ?_ _ | refine blk_drew ?_ | refine blk_alloc ?_ _))
    exact h) : g ≠ g1 := hg ▸ Nat.ne_of_gt (blk_lt (m h.out))
section
variable {w : World} {g : Nat} {t : TypeId} {a b c d e f i j : Value}
theorem zc2 (h : Aside0 (w.heap[g]? = some (.cells #[a, b] t (0, 0)))) : (w.cell? ⟨g, 0, none⟩ = some a ∧ w.cell? ⟨g, 1, none⟩ = some b) ∧ w.frozen? ⟨g, 0, none⟩ = false ∧ w.frozen? ⟨g, 1, none⟩ = false :=
  ⟨⟨(blk_cell h.out 0).trans rfl, (blk_cell h.out 1).trans rfl⟩, blk_frozen h.out 0, blk_frozen h.out 1⟩
theorem zc3 (h : Aside0 (w.heap[g]? = some (.cells #[a, b, c] t (0, 0)))) : (w.cell? ⟨g, 0, none⟩ = some a ∧ w.cell? ⟨g, 1, none⟩ = some b ∧ w.cell? ⟨g, 2, none⟩ = some c) ∧ w.frozen? ⟨g, 0, none⟩ = false ∧ w.frozen? ⟨g, 1, none⟩ = false ∧ w.frozen? ⟨g, 2, none⟩ = false :=
  ⟨⟨(blk_cell h.out 0).trans rfl, (blk_cell h.out 1).trans rfl, (blk_cell h.out 2).trans rfl⟩, blk_frozen h.out 0, blk_frozen h.out 1, blk_frozen h.out 2⟩
theorem zc4 (h : Aside0 (w.heap[g]? = some (.cells #[a, b, c, d] t (0, 0)))) : (w.cell? ⟨g, 0, none⟩ = some a ∧ w.cell? ⟨g, 1, none⟩ = some b ∧ w.cell? ⟨g, 2, none⟩ = some c ∧ w.cell? ⟨g, 3, none⟩ = some d) ∧ w.frozen? ⟨g, 0, none⟩ = false ∧ w.frozen? ⟨g, 1, none⟩ = false ∧ w.frozen? ⟨g, 2, none⟩ = false ∧ w.frozen? ⟨g, 3, none⟩ = false :=
  ⟨⟨(blk_cell h.out 0).trans rfl, (blk_cell h.out 1).trans rfl, (blk_cell h.out 2).trans rfl, (blk_cell h.out 3).trans rfl⟩, blk_frozen h.out 0, blk_frozen h.out 1, blk_frozen h.out 2, blk_frozen h.out 3⟩
theorem zc5 (h : Aside0 (w.heap[g]? = some (.cells #[a, b, c, d, e] t (0, 0)))) : (w.cell? ⟨g, 0, none⟩ = some a ∧ w.cell? ⟨g, 1, none⟩ = some b ∧ w.cell? ⟨g, 2, none⟩ = some c ∧ w.cell? ⟨g, 3, none⟩ = some d ∧ w.cell? ⟨g, 4, none⟩ = some e) ∧ w.frozen? ⟨g, 0, none⟩ = false ∧ w.frozen? ⟨g, 1, none⟩ = false ∧ w.frozen? ⟨g, 2, none⟩ = false ∧ w.frozen? ⟨g, 3, none⟩ = false ∧ w.frozen? ⟨g, 4, none⟩ = false :=
  ⟨⟨(blk_cell h.out 0).trans rfl, (blk_cell h.out 1).trans rfl, (blk_cell h.out 2).trans rfl, (blk_cell h.out 3).trans rfl, (blk_cell h.out 4).trans rfl⟩, blk_frozen h.out 0, blk_frozen h.out 1, blk_frozen h.out 2, blk_frozen h.out 3, blk_frozen h.out 4⟩
theorem zc8 (h : Aside0 (w.heap[g]? = some (.cells #[a, b, c, d, e, f, i, j] t (0, 0)))) : (w.cell? ⟨g, 0, none⟩ = some a ∧ w.cell? ⟨g, 1, none⟩ = some b ∧ w.cell? ⟨g, 2, none⟩ = some c ∧ w.cell? ⟨g, 3, none⟩ = some d ∧ w.cell? ⟨g, 4, none⟩ = some e ∧ w.cell? ⟨g, 5, none⟩ = some f ∧ w.cell? ⟨g, 6, none⟩ = some i ∧ w.cell? ⟨g, 7, none⟩ = some j) ∧
    w.frozen? ⟨g, 0, none⟩ = false ∧ w.frozen? ⟨g, 1, none⟩ = false ∧ w.frozen? ⟨g, 2, none⟩ = false ∧ w.frozen? ⟨g, 3, none⟩ = false ∧ w.frozen? ⟨g, 4, none⟩ = false ∧ w.frozen? ⟨g, 5, none⟩ = false ∧ w.frozen? ⟨g, 6, none⟩ = false ∧ w.frozen? ⟨g, 7, none⟩ = false :=
  ⟨⟨(blk_cell h.out 0).trans rfl, (blk_cell h.out 1).trans rfl, (blk_cell h.out 2).trans rfl, (blk_cell h.out 3).trans rfl, (blk_cell h.out 4).trans rfl, (blk_cell h.out 5).trans rfl, (blk_cell h.out 6).trans rfl, (blk_cell h.out 7).trans rfl⟩,
    blk_frozen h.out 0, blk_frozen h.out 1, blk_frozen h.out 2, blk_frozen h.out 3, blk_frozen h.out 4, blk_frozen h.out 5, blk_frozen h.out 6, blk_frozen h.out 7⟩
end
section
variable {P : Program} {ops : Array Oper} {rest : List Oper} {Q : Exit → Act → World → Prop} {S : World → Prop} {ds : List Nat} {md : Region.Mode}
theorem zG {oi : Oper} {a : Act} {w : World} (N : Option Tmp) {f : FuncId} {fn : Func} (hf : P.funcs[f]? = some fn) {xs_ : Array Operand} {ts : Array TypeId} (args : Array Value)
    (h : Calls P f args w fun e w' => ∃ v, e = .returned v ∧ wpList P ops Q rest (a.put N v) w')
    (hd : oi.dst = N := by exact rfl) (hg : oi.guard = none := by exact rfl) (hname : (fn.name == "runtime.NumGoroutine") = false := by kernel_rfl) (hb : fn.body.isSome = true := by exact rfl)
    (hop : oi.op = .call { callee := .value (.func f), args := xs_, argTypes := ts } := by exact rfl)
    (hargs : xs_.map a.eval = args := by (try simp only [List.map_toArray, List.map_cons, List.map_nil]); first | done | rfl | (simp only [List.length_drop, List.length_take]; rfl)) : wpList P ops Q (oi :: rest) a w :=
  goesL_ N hd hg hf hname hb args hop hargs h
theorem zp {T : Bool × List (List Nat × List Nat)} (i : Nat) (N : Nat) {oi : Oper} {v : Value} {fuel : Nat} {l : Array Bool} {a a' : Act} {w : World} (hT : rtab md ops = T)
    (h : wpAnyLast P md ops Q S ds fuel (l.setIfInBounds i true) a' w) (hi : ops[i]? = some oi := by exact rfl) (hN : oi.dst = some N := by exact rfl)
    (hc : (anyT T l.toList (l.setIfInBounds i true).toList i) = true := by kernel_rfl)
    (hQ : ∀ c a w, Q (.panic c) (a.put oi.dst v) w → Q (.panic c) a w := by exact fun _ _ _ h => h)
    (hw : Region.wanted oi (yielded ops a.tmps) = true := by rfl)
    (hy : ∀ w, (execOp a.eval oi).run P w = .ok (.value v) w := by intro w'; go_simp; with_reducible rfl)
    (ha : a.put (some N) v = a' := by simp only [Act.put, List.setIfInBounds_toArray, List.set_cons_zero, List.set_cons_succ, i64_w, i32_w]; rfl) :
    wpAnyLast P md ops Q S ds (fuel + 1) l a w :=
  pure_ (l.setIfInBounds i true) hi hN (any_of hT hc) hQ (Or.inl ⟨hw, hy⟩) ha h
end
end Go.Proofs.YtdplnbmioioniaaGreat.Pq
end
section
namespace Go.Proofs.YtdplnbmioioniaaGreat.Pq
open Go.RowKit Go.Proofs.YtdplnbmioioniaaGreatW.PrintWords Go.Proofs.YtdplnbmioioniaaGreatW.PrintLast Go.Proofs.YtdplnbmioioniaaGreatW.PrintMore
set_option linter.unusedVariables false
set_option linter.unusedSimpArgs false
set_option maxHeartbeats 1000000
theorem infoInt : (Tryz.prog.info? 3).map (fun i => (i.zero, i.size, i.bytes)) = some (some (.int .i64 0), 1, 8) := by kernel_rfl
theorem slices_IndexFunc_int.calls (g : Nat) (cb : Array Value) (p : Int → Bool) (A : Option Addr) (c : Nat) (xs : List Int) (w : World)
    (eg : ∀ args w, (callFunc g args).run Tryz.prog w = .ok (.enter g args) w)
    (hr : Kd.C (Kd.int .i64) w A xs.length xs) (hc : xs.length ≤ c)
    (hf : ∀ (x : Int) (W : World), Below w.heap.size w W → Calls Tryz.prog g (#[.int .i64 x] ++ cb) W (Ret (.bool (p x)) W)) :
    Calls Tryz.prog 97 #[.slice A xs.length c, .func (.func g) #[] cb] w (Ret (.int .i64 (idxFrom p 0 xs)) w) := by
  have hmax := Kd.C_max hr
  go_enter Tryz.func97, Tryz.ntmps97
  go_wp2
  go_loopg [8] xs.length (fun gg s8 wr => ∃ kk : Nat, kk ≤ xs.length ∧ xs.length - kk ≤ gg ∧ s8 = .int .i64 kk ∧ Aside0 (Below w.heap.size w wr) ∧ Aside0 (idxFrom p kk (xs.drop kk) = idxFrom p 0 xs))
  case atStart => exact ⟨0, Nat.zero_le _, by omega, rfl, ⟨Below.refl _ w⟩, ⟨rfl⟩⟩
  case round =>
    obtain ⟨kk, hkk, hg, rfl, BW, AI⟩ := hrel
    by_cases hlt : kk < xs.length
    · obtain ⟨ad, rfl, hcell0⟩ := C_at_int hr kk hlt
      have hcell := pw_cell_below BW.out hcell0
      have hcall := hf (xs.getD kk 0) wr BW.out
      have hi := Aside0.mk (idxFrom_drop p xs 0 kk hlt)
      clear hf hr hcell0
      generalize xs.getD kk 0 = y at hcell hcall hi
      cases hq : p y with
      | true =>
        rw [hq] at hcall
        go_wp2_with (go_at_fn g; refine hcall.mono ?_; rintro e w' ⟨rfl, hb'⟩)
        go_ret
        refine ⟨?_, below_then BW.out BW.out.size hb'⟩
        rw [← AI.out, hi.out, if_pos hq]; rfl
      | false =>
        rw [hq] at hcall
        go_wp2_with (go_at_fn g; refine hcall.mono ?_; rintro e w' ⟨rfl, hb'⟩)
        go_roundg (xs.length - (kk + 1))
        case measure => omega
        case rel =>
          refine ⟨kk + 1, by omega, by omega, by go_num, ⟨below_then BW.out BW.out.size hb'⟩, ⟨?_⟩⟩
          rw [← AI.out, hi.out, hq]; rfl
    · have : kk = xs.length := by omega
      subst this
      go_wp2
      go_ret
      refine ⟨?_, BW.out⟩
      rw [← AI.out]; simp [idxFrom]
theorem slices_ContainsFunc_int.calls (g : Nat) (cb : Array Value) (p : Int → Bool) (A : Option Addr) (c : Nat) (xs : List Int) (w : World)
    (eg : ∀ args w, (callFunc g args).run Tryz.prog w = .ok (.enter g args) w)
    (hr : Kd.C (Kd.int .i64) w A xs.length xs) (hc : xs.length ≤ c)
    (hf : ∀ (x : Int) (W : World), Below w.heap.size w W → Calls Tryz.prog g (#[.int .i64 x] ++ cb) W (Ret (.bool (p x)) W)) :
    Calls Tryz.prog 78 #[.slice A xs.length c, .func (.func g) #[] cb] w (Ret (.bool (xs.any p)) w) := by
  have hcall := slices_IndexFunc_int.calls g cb p A c xs w eg hr hc hf
  have hge := Aside0.mk (idxFrom_ge p xs 0)
  generalize idxFrom p 0 xs = q at hcall hge
  clear hf hr
  go_enter Tryz.func78, Tryz.ntmps78
  go_wp2_with (go_at_call 97; refine hcall.mono ?_; rintro e w' ⟨rfl, hb'⟩)
  go_ret
  refine ⟨?_, hb'⟩
  rw [← hge.out]; rfl
theorem image_sizes_1.calls (A : Option Addr) (n c : Nat) (w : World) :
    Calls Tryz.prog 81 #[.slice A n c] w (Ret (.int .i64 n) w) := by
  go_enter Tryz.func81, Tryz.ntmps81
  go_wp2
  go_ret
  exact ⟨rfl, Below.refl _ _⟩
def badSize (n : Int) : Bool := decide (n < 1) || decide (4096 < n)
theorem image_checkSizes_1.calls (n : Int) (w : World) :
    Calls Tryz.prog 79 #[.int .i64 n] w (Ret (.bool (badSize n)) w) := by
  by_cases h : n < 1
  · have h1 : decide (n < 1) = true := by simpa using h
    go_enter Tryz.func79, Tryz.ntmps79
    go_wp2
    go_ret
    exact ⟨by simp [h, badSize], Below.refl _ _⟩
  · have h1 : decide (n < 1) = false := by simpa using h
    go_enter Tryz.func79, Tryz.ntmps79
    have hb := Aside0.mk (show badSize n = decide (4096 < n) by unfold badSize; rw [h1]; rfl)
    go_wp2
    go_ret
    exact ⟨by rw [hb.out]; rfl, Below.refl _ _⟩
def sizesErr (l : List Int) : Int := if l.length < 1 ∨ 8 < l.length then 6 else if l.any badSize then 2 else 0
theorem image_checkSizes.calls (A : Option Addr) (c : Nat) (xs : List Int) (w : World) (hr : Kd.C (Kd.int .i64) w A xs.length xs) (hc : xs.length ≤ c) :
    Calls Tryz.prog 52 #[.slice A xs.length c] w (Ret (.int .i64 (sizesErr xs)) w) := by
  have hmax := Kd.C_max hr
  have hcall := slices_ContainsFunc_int.calls 79 #[] badSize A c xs w (enters_of Tryz.func79 (by kernel_rfl) rfl) hr hc (fun x W _ => image_checkSizes_1.calls x W)
  clear hr
  by_cases h1 : xs.length < 1
  · have hs := Aside0.mk (show sizesErr xs = 6 by simp [sizesErr, h1])
    have g1 : decide (xs.length < 1) = true := by simpa using h1
    have g2 : decide ((xs.length : Int) < 1) = true := by simp; omega
    clear hcall
    go_enter Tryz.func52, Tryz.ntmps52
    go_wp2
    go_ret
    exact ⟨by rw [hs.out]; rfl, Below.refl _ _⟩
  · have g1 : decide (xs.length < 1) = false := by simpa using h1
    have g2 : decide ((xs.length : Int) < 1) = false := by simp; omega
    by_cases h2 : 8 < xs.length
    · have hs := Aside0.mk (show sizesErr xs = 6 by simp [sizesErr, h2])
      have g3 : decide (8 < xs.length) = true := by simpa using h2
      have g4 : decide (8 < (xs.length : Int)) = true := by simp; omega
      clear hcall
      go_enter Tryz.func52, Tryz.ntmps52
      go_wp2
      go_ret
      exact ⟨by rw [hs.out]; rfl, Below.refl _ _⟩
    · have g3 : decide (8 < xs.length) = false := by simpa using h2
      have g4 : decide (8 < (xs.length : Int)) = false := by simp; omega
      have hs := Aside0.mk (show sizesErr xs = if xs.any badSize then 2 else 0 by unfold sizesErr; rw [if_neg (by omega)])
      generalize xs.any badSize = q at hcall hs
      cases q
      · go_enter Tryz.func52, Tryz.ntmps52
        go_wp2_with (go_at_call 78; refine hcall.mono ?_; rintro e w' ⟨rfl, hb'⟩)
        go_ret
        exact ⟨by rw [hs.out]; rfl, hb'⟩
      · go_enter Tryz.func52, Tryz.ntmps52
        go_wp2_with (go_at_call 78; refine hcall.mono ?_; rintro e w' ⟨rfl, hb'⟩)
        go_ret
        exact ⟨by rw [hs.out]; rfl, hb'⟩
abbrev Vol := List S59
abbrev Img := List Vol
abbrev kImg : Kd Vol := Kd.slice 59 k59
def lens (im : Img) : List Int := im.map fun v => (v.length : Int)
theorem image_mapped_int.calls (A : Option Addr) (c : Nat) (xs : Img) (w : World) (hr : Kd.C kImg w A xs.length xs) (hc : xs.length ≤ c) (hs : xs.length ≤ 1048576) :
    Calls Tryz.prog 80 #[.slice A xs.length c, .func (.func 81) #[] #[]] w (RetR (Kd.int .i64) 3 (lens xs) w) := by
  have hmk := make_cap (P := Tryz.prog) 25 3 (.int .i64 0) 8 1 Tryz.underlying25 infoInt (by decide) xs.length (by omega)
  have hmax := Kd.C_max hr
  have HS := Aside0.mk hs
  clear hs
  go_enter Tryz.func80, Tryz.ntmps80
  go_wp2
  go_loopg [5, 13] xs.length (fun gg s5 s13 wr => ∃ kk : Nat, kk ≤ xs.length ∧ xs.length - kk ≤ gg ∧ s13 = .int .i64 kk ∧ Aside0 (Below w.heap.size w wr) ∧ Aside0 (Kd.R (Kd.int .i64) 3 wr w.heap.size (fun _ => True) s5 (lens (xs.take kk))))
  case atStart => exact ⟨0, Nat.zero_le _, by omega, rfl, ⟨below_alloc (Below.refl _ _) _⟩, ⟨R_made (Kd.int .i64) w w _ _ _ (Nat.le_refl _) (by have := HS.out; unfold maxLen; omega) (by simp [size_madeCells, Kd.int, Kd.scalar])⟩⟩
  case round =>
    clear hmk
    obtain ⟨kk, hkk, hg, rfl, BW, HO⟩ := hrel
    by_cases hlt : kk < xs.length
    · obtain ⟨ad, A', c', rfl, hcell0, _, _⟩ := C_at_row hr kk hlt
      have hcell := pw_cell_below BW.out hcell0
      have hsn := Aside0.mk (show lens (xs.take (kk + 1)) = lens (xs.take kk) ++ [((xs.getD kk []).length : Int)] from map_take_snoc _ xs [] kk hlt)
      have hln := Aside0.mk (show (lens (xs.take kk)).length ≤ 1048576 by have := HS.out; simp [lens]; omega)
      clear hr hcell0
      generalize xs.getD kk [] = y at hcell hsn
      generalize lens (xs.take kk) = ys at HO hsn hln
      go_wp2_with (first | (go_at_call 81; refine (image_sizes_1.calls _ _ _ _).mono ?_; rintro e w1 ⟨rfl, hb1⟩; have n1 := Aside0.mk (xR_step HO.out hb1); have n2 := Aside0.mk (below_then BW.out BW.out.size hb1); clear HO BW hb1 hcell; have HO := n1; have BW := n2; clear n1 n2) | ((with_reducible refine gate_builtin (b := .append) (xs := #[.tmp 17, .tmp 21]) rfl ?_); at_builtin; refine R_push (Kd.int .i64) 25 3 (.int .i64 0) 8 rfl rfl Tryz.underlying25 infoInt rfl (by decide) (by decide) _ ys ((y.length : Nat) : Int) [.int .i64 ((y.length : Nat) : Int)] rfl rfl rfl HO.out BW.out (by have := hln.out; omega) ?_; intro v1 w2 HO1 HB1 hg1 hat1; have n1 := Aside0.mk HO1; have n2 := Aside0.mk HB1; clear HO BW HO1 HB1 hg1 hat1))
      go_roundg (xs.length - (kk + 1))
      case measure => omega
      case rel => exact ⟨kk + 1, by omega, by omega, by go_num, n2, ⟨by rw [hsn.out]; exact n1.out⟩⟩
    · have hk : kk = xs.length := by omega
      subst hk
      go_wp2
      go_ret
      exact ⟨_, rfl, by have h := HO.out; rw [List.take_length] at h; exact h, BW.out⟩
theorem image_sizes.calls0 (A : Option Addr) (c : Nat) (xs : Img) (w : World) (hr : Kd.C kImg w A xs.length xs) (hc : xs.length ≤ c) (hs : xs.length ≤ 1048576) :
    Calls Tryz.prog 53 #[.slice A xs.length c] w (RetR (Kd.int .i64) 3 (lens xs) w) := by
  have hcall := image_mapped_int.calls A c xs w hr hc hs
  clear hr
  go_enter Tryz.func53, Tryz.ntmps53
  go_wp2_with (go_at_call 80; refine hcall.mono ?_; rintro e w' ⟨v, rfl, hR, hb'⟩)
  go_ret
  exact ⟨v, rfl, hR, hb'⟩
def image_sizes.f (l0 : Img) : Option (List Int) := if l0.length ≤ 1048576 then some (lens l0) else none
theorem image_sizes.calls (A0 : Option Addr) (c0 : Nat) (l0 : List (List (S59))) (r : List Int) (w : World) (hr0 : Kd.C (Kd.slice 59 k59) w A0 l0.length l0) (hc0 : l0.length ≤ c0) (h : image_sizes.f l0 = some r) :
    Calls Tryz.prog 53 #[.slice A0 l0.length c0] w fun e w' => ∃ v0_ : Value, e = .returned (v0_) ∧ Kd.R (Kd.int .i64) 3 w' w.heap.size (fun _ => True) v0_ r ∧ Below w.heap.size w w' := by
  unfold image_sizes.f at h
  split at h
  case isFalse => cases h
  rename_i hs
  injection h with h
  subst h
  exact image_sizes.calls0 A0 c0 l0 w hr0 hc0 hs
def image_Check.f (l0 : Img) : Option Int := if l0.length ≤ 1048576 then some (sizesErr (lens l0)) else none
theorem image_Check.calls (A0 : Option Addr) (c0 : Nat) (l0 : List (List (S59))) (r : Int) (w : World) (hr0 : Kd.C (Kd.slice 59 k59) w A0 l0.length l0) (hc0 : l0.length ≤ c0) (h : image_Check.f l0 = some r) :
    Calls Tryz.prog 24 #[.slice A0 l0.length c0] w fun e w' => e = .returned (.int .i64 r) ∧ Below w.heap.size w w' := by
  unfold image_Check.f at h
  split at h
  case isFalse => cases h
  rename_i hs
  injection h with h
  subst h
  have hcall := image_sizes.calls0 A0 c0 l0 w hr0 hc0 hs
  clear hr0 hs
  go_enter Tryz.func24, Tryz.ntmps24
  go_wp2_with (first | (go_at_call 53; refine hcall.mono ?_; rintro e w1 ⟨v, rfl, hR, hb1⟩; obtain ⟨A1, c1, rfl, hc1, hC⟩ := Kd.R_reads hR; have HB := Aside0.mk hb1; clear hb1 hR) | (go_at_call 52; refine (image_checkSizes.calls _ _ _ _ hC hc1).mono ?_; rintro e w2 ⟨rfl, hb2⟩))
  go_ret
  exact ⟨rfl, below_then HB.out HB.out.size hb2⟩
end Go.Proofs.YtdplnbmioioniaaGreat.Pq
end
section
namespace Go.Proofs.YtdplnbmioioniaaGreat.Pq
open Go.RowKit Go.Proofs.YtdplnbmioioniaaGreatW.PrintWords Go.Proofs.YtdplnbmioioniaaGreatW.PrintLast Go.Proofs.YtdplnbmioioniaaGreatW.PrintMore
attribute [local go_sem] max2_int min2_int max_two min_two max_three min_three max_four min_four
set_option linter.unusedVariables false
set_option linter.unusedSimpArgs false
def slices_Equal_int_int.l0 : Nat → List Int → List Int → Int → Int → Option (Bool)
  | 0, _, _, _, _ => none
  | k + 1, x0, x1, x12, x13 => if x13 < x12 then (if 0 ≤ x13 then (if x13 < (x0.length : Int) then (if x13 < (x1.length : Int) then (if (rd x0 x13) = (rd x1 x13) then (slices_Equal_int_int.l0 k x0 x1 x12 (wrap64 (x13 + 1))) else (some false)) else (none)) else (none)) else (none)) else (some true)
def slices_Equal_int_int.f (k : Nat) (l0 : List Int) (l1 : List Int) : Option (Bool) := if (l0.length : Int) = (l1.length : Int) then (slices_Equal_int_int.l0 k l0 l1 (l0.length : Int) 0) else (some false)
set_option maxHeartbeats 8000000 in
set_option maxRecDepth 100000 in
theorem slices_Equal_int_int.calls (k : Nat) (A0 : Option Addr) (c0 : Nat) (l0 : List Int) (A1 : Option Addr) (c1 : Nat) (l1 : List Int) (r : Bool) (w : World) (hr0 : Kd.C (Kd.int .i64) w A0 l0.length l0) (hc0 : l0.length ≤ c0) (hr1 : Kd.C (Kd.int .i64) w A1 l1.length l1) (hc1 : l1.length ≤ c1) (h : slices_Equal_int_int.f k l0 l1 = some r) :
    Calls Tryz.prog 68 #[.slice A0 l0.length c0, .slice A1 l1.length c1] w fun e w' => e = .returned (.bool r) ∧ Drawn0 w w' := by
  have HR0 := Aside0.mk hr0
  have HC0 := Aside0.mk hc0
  clear hr0 hc0
  have HR1 := Aside0.mk hr1
  have HC1 := Aside0.mk hc1
  clear hr1 hc1
  have H : (if (l0.length : Int) = (l1.length : Int) then (slices_Equal_int_int.l0 k l0 l1 (l0.length : Int) 0) else (some false)) = some r := h
  clear h
  by_cases c3 : (l0.length : Int) = (l1.length : Int)
  · rw [if_pos c3] at H
    have c3b0 : ((l0.length : Int) == (l1.length : Int)) = true := beq_iff_eq.mpr c3
    have c3b1 : ((l0.length : Int) != (l1.length : Int)) = false := bne_eq_false_iff_eq.mpr c3
    have c3b2 : (l0.length == l1.length) = true := by first | simpa using c3 | (simp at c3 ⊢; omega)
    clear c3
    have H' := Aside0.mk H
    clear H
    go_enter Tryz.func68, Tryz.ntmps68
    go_wp2
    repeat (go_quiet (fail); try go_wp2)
    go_loopg [13] k (fun kq v13 w' => ∃ (x13_1 : Int), v13 = .int .i64 x13_1 ∧ Aside0 (slices_Equal_int_int.l0 kq l0 l1 (l0.length : Int) x13_1 = some r) ∧ Aside0 (kq ≤ k) ∧ Drawn0 w w')
    case atStart => exact ⟨(0), (by first | rfl | (simp; done) | (simp [*]; done)), H', ⟨Nat.le_refl _⟩, by repeat (first | exact Drawn0.refl _ | apply Drawn0.step)⟩
    case round =>
      clear H'
      try clear c1
      try clear p2
      try clear c3
      try clear c3b0
      try clear c3b1
      try clear c3b2
      obtain ⟨x13_1, rfl, HA, HK1, ⟨m1, rfl⟩⟩ := hrel
      cases gk with
      | zero => exact absurd HA.out (by simp [slices_Equal_int_int.l0])
      | succ k1 =>
        have H := HA.out
        clear HA
        simp only [slices_Equal_int_int.l0] at H
        by_cases c4 : x13_1 < (l0.length : Int)
        · rw [if_pos c4] at H
          have c4b0 : decide (x13_1 < (l0.length : Int)) = true := decide_eq_true c4
          clear c4
          by_cases c5 : 0 ≤ x13_1
          · rw [if_pos c5] at H
            have c5b0 : decide (0 ≤ x13_1) = true := decide_eq_true c5
            clear c5
            by_cases c6 : x13_1 < (l0.length : Int)
            · rw [if_pos c6] at H
              have c6b0 : decide (x13_1 < (l0.length : Int)) = true := decide_eq_true c6
              clear c6
              by_cases c7 : x13_1 < (l1.length : Int)
              · rw [if_pos c7] at H
                have c7b0 : decide (x13_1 < (l1.length : Int)) = true := decide_eq_true c7
                clear c7
                by_cases c8 : (rd l0 x13_1) = (rd l1 x13_1)
                · rw [if_pos c8] at H
                  have c8b0 : ((rd l0 x13_1) == (rd l1 x13_1)) = true := beq_iff_eq.mpr c8
                  have c8b1 : ((rd l0 x13_1) != (rd l1 x13_1)) = false := bne_eq_false_iff_eq.mpr c8
                  clear c8
                  have H' := Aside0.mk H
                  clear H
                  have p101 : 0 ≤ (x13_1 : Int) := of_decide_eq_true (by first | (with_reducible assumption) | assumption)
                  have q101 : x13_1 < (l0.length : Int) := of_decide_eq_true (by first | (with_reducible assumption) | assumption)
                  obtain ⟨ad101, e101, hx101_0⟩ := Kd.at_int HR0.out x13_1 p101 q101
                  cases e101
                  replace p101 := eq_true p101
                  replace q101 := eq_true q101
                  have p102 : 0 ≤ (x13_1 : Int) := of_decide_eq_true (by first | (with_reducible assumption) | assumption)
                  have q102 : x13_1 < (l1.length : Int) := of_decide_eq_true (by first | (with_reducible assumption) | assumption)
                  obtain ⟨ad102, e102, hx102_0⟩ := Kd.at_int HR1.out x13_1 p102 q102
                  cases e102
                  replace p102 := eq_true p102
                  replace q102 := eq_true q102
                  go_wp2
                  repeat (go_quiet (fail); try go_wp2)
                  go_roundg k1
                  case measure => have := HK1.out; omega
                  case rel => exact ⟨(wrap64 (x13_1 + 1)), (by first | rfl | (simp; done) | (simp [*]; done)), H', ⟨by have := HK1.out; omega⟩, by repeat (first | exact Drawn0.refl _ | apply Drawn0.step)⟩
                · rw [if_neg c8] at H
                  have c8b0 : ((rd l0 x13_1) == (rd l1 x13_1)) = false := beq_eq_false_iff_ne.mpr c8
                  have c8b1 : ((rd l0 x13_1) != (rd l1 x13_1)) = true := bne_iff_ne.mpr c8
                  obtain rfl := Option.some.inj H
                  have p101 : 0 ≤ (x13_1 : Int) := of_decide_eq_true (by first | (with_reducible assumption) | assumption)
                  have q101 : x13_1 < (l0.length : Int) := of_decide_eq_true (by first | (with_reducible assumption) | assumption)
                  obtain ⟨ad101, e101, hx101_0⟩ := Kd.at_int HR0.out x13_1 p101 q101
                  cases e101
                  replace p101 := eq_true p101
                  replace q101 := eq_true q101
                  have p102 : 0 ≤ (x13_1 : Int) := of_decide_eq_true (by first | (with_reducible assumption) | assumption)
                  have q102 : x13_1 < (l1.length : Int) := of_decide_eq_true (by first | (with_reducible assumption) | assumption)
                  obtain ⟨ad102, e102, hx102_0⟩ := Kd.at_int HR1.out x13_1 p102 q102
                  cases e102
                  replace p102 := eq_true p102
                  replace q102 := eq_true q102
                  go_wp2
                  repeat (go_quiet (fail); try go_wp2)
                  go_ret
                  exact ⟨by first | rfl | (simp; done) | (simp [*]; done), by repeat (first | exact Drawn0.refl _ | apply Drawn0.step)⟩
              · rw [if_neg c7] at H
                exact absurd H (by simp)
            · rw [if_neg c6] at H
              exact absurd H (by simp)
          · rw [if_neg c5] at H
            exact absurd H (by simp)
        · rw [if_neg c4] at H
          have c4b0 : decide (x13_1 < (l0.length : Int)) = false := decide_eq_false c4
          clear c4
          obtain rfl := Option.some.inj H
          go_wp2
          repeat (go_quiet (fail); try go_wp2)
          go_ret
          exact ⟨by first | rfl | (simp; done) | (simp [*]; done), by repeat (first | exact Drawn0.refl _ | apply Drawn0.step)⟩
  · rw [if_neg c3] at H
    have c3b0 : ((l0.length : Int) == (l1.length : Int)) = false := beq_eq_false_iff_ne.mpr c3
    have c3b1 : ((l0.length : Int) != (l1.length : Int)) = true := bne_iff_ne.mpr c3
    have c3b2 : (l0.length == l1.length) = false := by first | simpa using c3 | (simp at c3 ⊢; omega)
    obtain rfl := Option.some.inj H
    go_enter Tryz.func68, Tryz.ntmps68
    go_wp2
    repeat (go_quiet (fail); try go_wp2)
    go_ret
    exact ⟨by first | rfl | (simp; done) | (simp [*]; done), by repeat (first | exact Drawn0.refl _ | apply Drawn0.step)⟩
def image_pair.l0 : Nat → List (List (S59)) → List (List (S59)) → List (List (List (S59))) → Int → Int → Option (Int)
  | 0, _, _, _, _, _ => none
  | k + 1, x0, x1, x10, x11, x12 => if x12 < x11 then (if 0 ≤ x12 then (if x12 < (x10.length : Int) then ((image_Check.f (rd_L3 x10 x12)).bind fun t107 => (if t107 = 0 then (image_pair.l0 k x0 x1 x10 x11 (wrap64 (x12 + 1))) else (some t107))) else (none)) else (none)) else ((image_sizes.f x0).bind fun t108 => ((image_sizes.f x1).bind fun t111 => ((slices_Equal_int_int.f k t108 t111).bind fun t114 => (if t114 = true then (some 0) else (some 22)))))
def image_pair.f (k : Nat) (l0 : List (List (S59))) (l1 : List (List (S59))) : Option (Int) := (some (([l0, l1] : List (List (List (S59)))) : List (List (List (S59))))).bind fun y103 => (image_pair.l0 k l0 l1 y103 (y103.length : Int) 0)
set_option maxHeartbeats 8000000 in
set_option maxRecDepth 100000 in
theorem image_pair.calls (k : Nat) (P0_ : Nat → Prop) (A0 : Option Addr) (c0 : Nat) (l0 : List (List (S59))) (P1_ : Nat → Prop) (A1 : Option Addr) (c1 : Nat) (l1 : List (List (S59))) (r : Int) (w : World) (hs0 : Kd.V (Kd.slice 59 k59) 56 w w.heap.size (fun k_ => P0_ k_) (.slice A0 l0.length c0) l0) (hs1 : Kd.V (Kd.slice 59 k59) 56 w w.heap.size (fun k_ => P1_ k_) (.slice A1 l1.length c1) l1) (h : image_pair.f k l0 l1 = some r) :
    Calls Tryz.prog 37 #[.slice A0 l0.length c0, .slice A1 l1.length c1] w fun e w' => e = .returned (.int .i64 r) ∧ Below w.heap.size w w' := by
  have HO0 := Aside0.mk (show Kd.V (Kd.slice 59 k59) 56 w w.heap.size (fun k_ => ((P0_ k_ ∨ P1_ k_) ∨ w.heap.size ≤ k_)) (.slice A0 l0.length c0) l0 from Kd.V_mono hs0 (fun k_ hk => .inl (.inl hk)))
  have HO1 := Aside0.mk (show Kd.V (Kd.slice 59 k59) 56 w w.heap.size (fun k_ => ((P0_ k_ ∨ P1_ k_) ∨ w.heap.size ≤ k_)) (.slice A1 l1.length c1) l1 from Kd.V_mono hs1 (fun k_ hk => .inl (.inr hk)))
  have HB := Aside0.mk (Below.refl w.heap.size w)
  have H : ((some (([l0, l1] : List (List (List (S59)))) : List (List (List (S59))))).bind fun y103 => (image_pair.l0 k l0 l1 y103 (y103.length : Int) 0)) = some r := h
  clear h
  obtain ⟨y103, hy103⟩ : ∃ y_ : List (List (List (S59))), y_ = (([l0, l1] : List (List (List (S59))))) := ⟨_, rfl⟩
  replace H : (image_pair.l0 k l0 l1 y103 (y103.length : Int) 0) = some r := by first | (rw [hy103]; with_reducible exact H) | (have H2_ := (Option.bind_some _ _).symm.trans H; rw [hy103]; with_reducible exact H2_) | (have H2_ := (Option.bind_some _ _).symm.trans H; with_reducible exact H2_) | with_reducible exact H | (rw [hy103]; exact H) | exact H
  have Ny103 := Aside0.mk hy103
  clear hy103
  have H' := Aside0.mk H
  clear H
  go_enter Tryz.func37, Tryz.ntmps37
  go_wp2_with (first | ((with_reducible refine gate_dst (N := 10) rfl ?_); refine Kd.N_lit (Kd.slice 56 (Kd.slice 59 k59)) _ 23 ?hg (N' := 10) ?hd (xs := ([l0, l1] : List (List (List (S59))))) (inner := [.slice A0 l0.length c0, .slice A1 l1.length c1]) (ok := (fun k_ => ((P0_ k_ ∨ P1_ k_) ∨ w.heap.size ≤ k_))) (okp := (fun k_ => ((P0_ k_ ∨ P1_ k_) ∨ w.heap.size ≤ k_))) ?hr ?hp (fun _ hk => hk) ((show ∀ k_, w.heap.size ≤ k_ → (fun k_ => ((P0_ k_ ∨ P1_ k_) ∨ w.heap.size ≤ k_)) k_ from fun k_ hk => (.inr (Nat.le_trans (below_size (zb HB)) hk))) _ (Nat.le_refl _)) (Below.refl _ _) (Nat.le_refl _) (by simp) ?_; (case hd => rfl); (case hg => rfl); (case hr => first | (go_simp; done) | (go_simp; rfl)); (case hp => exact (Reps.one (show Kd.FK (Kd.slice 56 (Kd.slice 59 k59)) _ _ l0 [.slice A0 l0.length c0] from (Kd.FK_slice_mk (Kd.V_reads' (Kd.V_mono (ok' := (fun k_ => ((P0_ k_ ∨ P1_ k_) ∨ w.heap.size ≤ k_))) (HO0.out) (fun k_ hk => hk))).2.1 (Kd.V_F (Kd.V_mono (ok' := (fun k_ => ((P0_ k_ ∨ P1_ k_) ∨ w.heap.size ≤ k_))) (HO0.out) (fun k_ hk => hk))))) (Reps.one (show Kd.FK (Kd.slice 56 (Kd.slice 59 k59)) _ _ l1 [.slice A1 l1.length c1] from (Kd.FK_slice_mk (Kd.V_reads' (Kd.V_mono (ok' := (fun k_ => ((P0_ k_ ∨ P1_ k_) ∨ w.heap.size ≤ k_))) (HO1.out) (fun k_ hk => hk))).2.1 (Kd.V_F (Kd.V_mono (ok' := (fun k_ => ((P0_ k_ ∨ P1_ k_) ∨ w.heap.size ≤ k_))) (HO1.out) (fun k_ hk => hk))))) (Reps.none _ _)))); intro v104 w3 ho4 hb hg_ hnew_; clear hg_ hnew_; (first | rw [← Ny103.out] at ho4 | (simp only [Int.reduceToNat] at ho4; rw [← Ny103.out] at ho4)); have HO105 := Aside0.mk (Kd.N_lower ho4 (below_size (zb HB))); replace HO0 := Aside0.mk (Kd.V_elder' (by (with_reducible repeat (first | apply Kd.V_alloc | apply Kd.V_drewN | apply Kd.V_drew)); exact HO0.out) (Kd.N_base ho4) hb); replace HO1 := Aside0.mk (Kd.V_elder' (by (with_reducible repeat (first | apply Kd.V_alloc | apply Kd.V_drewN | apply Kd.V_drew)); exact HO1.out) (Kd.N_base ho4) hb); replace HB := Aside0.mk (below_step (zb HB) hb); clear hb ho4; obtain ⟨Ao5, co5, eo5⟩ := Kd.N_slice HO105.out; subst eo5))
  go_loopg [12] k (fun kq v12 w' => ∃ (x12_1 : Int), v12 = .int .i64 x12_1 ∧ Aside0 (image_pair.l0 kq l0 l1 y103 (y103.length : Int) x12_1 = some r) ∧ Aside0 (kq ≤ k) ∧ Aside0 (Kd.V (Kd.slice 59 k59) 56 w' w.heap.size (fun k_ => ((P0_ k_ ∨ P1_ k_) ∨ w.heap.size ≤ k_) ∧ some k_ ≠ ((.slice Ao5 y103.length co5) : Value).ownBlock) (.slice A0 l0.length c0) l0) ∧ Aside0 (Kd.V (Kd.slice 59 k59) 56 w' w.heap.size (fun k_ => ((P0_ k_ ∨ P1_ k_) ∨ w.heap.size ≤ k_) ∧ some k_ ≠ ((.slice Ao5 y103.length co5) : Value).ownBlock) (.slice A1 l1.length c1) l1) ∧ Aside0 (Kd.N (Kd.slice 56 (Kd.slice 59 k59)) 23 w' w.heap.size (fun k_ => ((P0_ k_ ∨ P1_ k_) ∨ w.heap.size ≤ k_)) (.slice Ao5 y103.length co5) y103) ∧ Aside0 (Below w.heap.size w w'))
  case atStart => exact ⟨(0), (by first | rfl | (simp; done) | (simp [*]; done)), H', ⟨Nat.le_refl _⟩, ⟨by (with_reducible repeat (first | apply Kd.V_alloc | apply Kd.V_drewN | apply Kd.V_drew)); exact HO0.out⟩, ⟨by (with_reducible repeat (first | apply Kd.V_alloc | apply Kd.V_drewN | apply Kd.V_drew)); exact HO1.out⟩, ⟨by (with_reducible repeat (first | apply Kd.N_alloc | apply Kd.N_drewN | apply Kd.N_drew)); exact HO105.out⟩, ⟨zb HB⟩⟩
  case round =>
    clear H'
    try clear c1
    try clear p2
    try clear c3
    obtain ⟨x12_1, rfl, HA, HK1, HO_0, HO_1, HO_10, HB⟩ := hrel
    cases gk with
    | zero => exact absurd HA.out (by simp [image_pair.l0])
    | succ k1 =>
      have H := HA.out
      clear HA
      simp only [image_pair.l0] at H
      by_cases c6 : x12_1 < (y103.length : Int)
      · rw [if_pos c6] at H
        have c6b0 : decide (x12_1 < (y103.length : Int)) = true := decide_eq_true c6
        clear c6
        by_cases c7 : 0 ≤ x12_1
        · rw [if_pos c7] at H
          have c7b0 : decide (0 ≤ x12_1) = true := decide_eq_true c7
          clear c7
          by_cases c8 : x12_1 < (y103.length : Int)
          · rw [if_pos c8] at H
            have c8b0 : decide (x12_1 < (y103.length : Int)) = true := decide_eq_true c8
            clear c8
            replace H := Option.bind_eq_some_iff.mp H
            obtain ⟨t107, A90, H⟩ := H
            replace H : (if t107 = 0 then (image_pair.l0 k1 l0 l1 y103 (y103.length : Int) (wrap64 (x12_1 + 1))) else (some t107)) = some r := H
            have A9 := Aside0.mk A90
            clear A90
            by_cases c10 : t107 = 0
            · rw [if_pos c10] at H
              have c10b0 : (t107 == 0) = true := beq_iff_eq.mpr c10
              have c10b1 : (t107 != 0) = false := bne_eq_false_iff_eq.mpr c10
              clear c10
              have H' := Aside0.mk H
              clear H
              have p106 : 0 ≤ (x12_1 : Int) := of_decide_eq_true (by first | (with_reducible assumption) | assumption)
              have q106 : x12_1 < (y103.length : Int) := of_decide_eq_true (by first | (with_reducible assumption) | assumption)
              obtain ⟨ad106, A106_0, c106_0, e106, hx106_0, hl106_0, hi106_0⟩ := at_L3 (Kd.N_reads' HO_10.out).2.2 x12_1 p106 q106
              cases e106
              obtain ⟨ce106, hce106, hMe106, hcc106⟩ := Kd.N_get HO_10.out [] x12_1 p106 (by first | exact q106 | exact of_decide_eq_true (by first | (with_reducible assumption) | assumption) | (have e_ := (Kd.N_reads' HO_10.out).1; omega))
              obtain ⟨ua106_0, uc106_0, rfl, ul106_0, ge106_0⟩ := Kd.FK_slice_open hMe106
              have hv106_0 := hcc106 0 _ rfl
              rw [Nat.add_zero, show ((Kd.slice 56 (Kd.slice 59 k59))).sz = 1 from rfl, Nat.mul_one] at hv106_0
              replace hv106_0 := Option.some.inj (hv106_0.symm.trans hx106_0)
              injection hv106_0 with hva_ hvn_ hvc_
              rw [hva_] at ge106_0
              rw [hvc_] at ul106_0
              have HL106_0 := Aside0.mk (show Kd.V (Kd.slice 59 k59) 56 _ w.heap.size _ _ (rd_L3 y103 x12_1) from Kd.V_mk ul106_0 ge106_0)
              clear hva_ hvn_ hvc_ ge106_0 ul106_0
              clear hcc106 hce106
              have HR106_0 := Aside0.mk hi106_0
              have HC106_0 := Aside0.mk hl106_0
              clear hi106_0 hl106_0
              replace p106 := eq_true p106
              replace q106 := eq_true q106
              go_wp2_with (first | ((with_reducible refine gate_callee (f := 24) rfl ?_); refine zG (some 17) Tryz.func24 #[.slice A106_0 (rd_L3 y103 x12_1).length c106_0] ?_; (with_reducible refine (image_Check.calls _ _ (rd_L3 y103 x12_1) t107 _ ?side1 ?side2 A9.out).mono ?_); (case side1 => repeat (first | exact (by repeat (first | (with_reducible exact HR106_0.out) | (with_reducible refine Kd.C_alloc ?_ _) | (with_reducible refine Kd.C_drewN ?_ _) | (with_reducible refine Kd.C_drew ?_) | exact HR106_0.out)) | (with_reducible refine Kd.C_alloc ?_ _) | (with_reducible refine Kd.C_drewN ?_ _) | (with_reducible refine Kd.C_drew ?_))); (case side2 => exact HC106_0.out); rintro e w11 ⟨rfl, hb⟩; refine ⟨_, rfl, ?_⟩; replace HO_0 := Aside0.mk (Kd.V_below (by (with_reducible repeat (first | apply Kd.V_alloc | apply Kd.V_drewN | apply Kd.V_drew)); exact HO_0.out) hb); replace HO_1 := Aside0.mk (Kd.V_below (by (with_reducible repeat (first | apply Kd.V_alloc | apply Kd.V_drewN | apply Kd.V_drew)); exact HO_1.out) hb); replace HO_10 := Aside0.mk (Kd.N_below (zn HO_10.out) hb); replace HL106_0 := Aside0.mk (Kd.V_below (by (with_reducible repeat (first | apply Kd.V_alloc | apply Kd.V_drewN | apply Kd.V_drew)); exact HL106_0.out) hb); replace HR106_0 := Aside0.mk (Kd.C_below (by repeat (first | (with_reducible exact HR106_0.out) | (with_reducible refine Kd.C_alloc ?_ _) | (with_reducible refine Kd.C_drewN ?_ _) | (with_reducible refine Kd.C_drew ?_) | exact HR106_0.out)) hb); replace HB := Aside0.mk (below_step (zb HB) hb); clear hb))
              go_roundg k1
              case measure => have := HK1.out; omega
              case rel => exact ⟨(wrap64 (x12_1 + 1)), (by first | rfl | (simp; done) | (simp [*]; done)), H', ⟨by have := HK1.out; omega⟩, ⟨by (with_reducible repeat (first | apply Kd.V_alloc | apply Kd.V_drewN | apply Kd.V_drew)); exact HO_0.out⟩, ⟨by (with_reducible repeat (first | apply Kd.V_alloc | apply Kd.V_drewN | apply Kd.V_drew)); exact HO_1.out⟩, ⟨by (with_reducible repeat (first | apply Kd.N_alloc | apply Kd.N_drewN | apply Kd.N_drew)); exact HO_10.out⟩, ⟨zb HB⟩⟩
            · rw [if_neg c10] at H
              have c10b0 : (t107 == 0) = false := beq_eq_false_iff_ne.mpr c10
              have c10b1 : (t107 != 0) = true := bne_iff_ne.mpr c10
              obtain rfl := Option.some.inj H
              have p106 : 0 ≤ (x12_1 : Int) := of_decide_eq_true (by first | (with_reducible assumption) | assumption)
              have q106 : x12_1 < (y103.length : Int) := of_decide_eq_true (by first | (with_reducible assumption) | assumption)
              obtain ⟨ad106, A106_0, c106_0, e106, hx106_0, hl106_0, hi106_0⟩ := at_L3 (Kd.N_reads' HO_10.out).2.2 x12_1 p106 q106
              cases e106
              obtain ⟨ce106, hce106, hMe106, hcc106⟩ := Kd.N_get HO_10.out [] x12_1 p106 (by first | exact q106 | exact of_decide_eq_true (by first | (with_reducible assumption) | assumption) | (have e_ := (Kd.N_reads' HO_10.out).1; omega))
              obtain ⟨ua106_0, uc106_0, rfl, ul106_0, ge106_0⟩ := Kd.FK_slice_open hMe106
              have hv106_0 := hcc106 0 _ rfl
              rw [Nat.add_zero, show ((Kd.slice 56 (Kd.slice 59 k59))).sz = 1 from rfl, Nat.mul_one] at hv106_0
              replace hv106_0 := Option.some.inj (hv106_0.symm.trans hx106_0)
              injection hv106_0 with hva_ hvn_ hvc_
              rw [hva_] at ge106_0
              rw [hvc_] at ul106_0
              have HL106_0 := Aside0.mk (show Kd.V (Kd.slice 59 k59) 56 _ w.heap.size _ _ (rd_L3 y103 x12_1) from Kd.V_mk ul106_0 ge106_0)
              clear hva_ hvn_ hvc_ ge106_0 ul106_0
              clear hcc106 hce106
              have HR106_0 := Aside0.mk hi106_0
              have HC106_0 := Aside0.mk hl106_0
              clear hi106_0 hl106_0
              replace p106 := eq_true p106
              replace q106 := eq_true q106
              go_wp2_with (first | ((with_reducible refine gate_callee (f := 24) rfl ?_); refine zG (some 17) Tryz.func24 #[.slice A106_0 (rd_L3 y103 x12_1).length c106_0] ?_; (with_reducible refine (image_Check.calls _ _ (rd_L3 y103 x12_1) t107 _ ?side1 ?side2 A9.out).mono ?_); (case side1 => repeat (first | exact (by repeat (first | (with_reducible exact HR106_0.out) | (with_reducible refine Kd.C_alloc ?_ _) | (with_reducible refine Kd.C_drewN ?_ _) | (with_reducible refine Kd.C_drew ?_) | exact HR106_0.out)) | (with_reducible refine Kd.C_alloc ?_ _) | (with_reducible refine Kd.C_drewN ?_ _) | (with_reducible refine Kd.C_drew ?_))); (case side2 => exact HC106_0.out); rintro e w12 ⟨rfl, hb⟩; refine ⟨_, rfl, ?_⟩; replace HO_0 := Aside0.mk (Kd.V_below (by (with_reducible repeat (first | apply Kd.V_alloc | apply Kd.V_drewN | apply Kd.V_drew)); exact HO_0.out) hb); replace HO_1 := Aside0.mk (Kd.V_below (by (with_reducible repeat (first | apply Kd.V_alloc | apply Kd.V_drewN | apply Kd.V_drew)); exact HO_1.out) hb); replace HO_10 := Aside0.mk (Kd.N_below (zn HO_10.out) hb); replace HL106_0 := Aside0.mk (Kd.V_below (by (with_reducible repeat (first | apply Kd.V_alloc | apply Kd.V_drewN | apply Kd.V_drew)); exact HL106_0.out) hb); replace HR106_0 := Aside0.mk (Kd.C_below (by repeat (first | (with_reducible exact HR106_0.out) | (with_reducible refine Kd.C_alloc ?_ _) | (with_reducible refine Kd.C_drewN ?_ _) | (with_reducible refine Kd.C_drew ?_) | exact HR106_0.out)) hb); replace HB := Aside0.mk (below_step (zb HB) hb); clear hb))
              go_ret
              exact ⟨by first | rfl | (simp [errW_none, errW_some] <;> rfl) | (simp [*, errW_none, errW_some] <;> rfl), zb HB⟩
          · rw [if_neg c8] at H
            exact absurd H (by simp)
        · rw [if_neg c7] at H
          exact absurd H (by simp)
      · rw [if_neg c6] at H
        have c6b0 : decide (x12_1 < (y103.length : Int)) = false := decide_eq_false c6
        clear c6
        replace H := Option.bind_eq_some_iff.mp H
        obtain ⟨t108, A130, H⟩ := H
        replace H : ((image_sizes.f l1).bind fun t111 => ((slices_Equal_int_int.f k1 t108 t111).bind fun t114 => (if t114 = true then (some 0) else (some 22)))) = some r := H
        have A13 := Aside0.mk A130
        clear A130
        replace H := Option.bind_eq_some_iff.mp H
        obtain ⟨t111, A140, H⟩ := H
        replace H : ((slices_Equal_int_int.f k1 t108 t111).bind fun t114 => (if t114 = true then (some 0) else (some 22))) = some r := H
        have A14 := Aside0.mk A140
        clear A140
        replace H := Option.bind_eq_some_iff.mp H
        obtain ⟨t114, A150, H⟩ := H
        replace H : (if t114 = true then (some 0) else (some 22)) = some r := H
        have A15 := Aside0.mk A150
        clear A150
        by_cases c16 : t114 = true
        · subst c16
          have H1 : (some 0) = some r := by rw [if_pos rfl] at H; exact H
          clear H
          have H := H1
          clear H1
          obtain rfl := Option.some.inj H
          go_wp2_with (first | ((with_reducible refine gate_callee (f := 53) rfl ?_); refine zG (some 23) Tryz.func53 #[.slice A0 l0.length c0] ?_; (with_reducible refine (image_sizes.calls _ _ l0 t108 _ ?side1 ?side2 A13.out).mono ?_); (case side1 => repeat (first | exact (Kd.V_reads' HO_0.out).2.2 | (with_reducible refine Kd.C_alloc ?_ _) | (with_reducible refine Kd.C_drewN ?_ _) | (with_reducible refine Kd.C_drew ?_))); (case side2 => exact (Kd.V_reads' HO_0.out).2.1); rintro e w17 ⟨v109, rfl, ho0, hb⟩; refine ⟨_, rfl, ?_⟩; have HO110 := Aside0.mk (Kd.R_lower (Kd.R_newM (M := fun k_ => (w.heap.size ≤ k_)) ho0 (below_size (zb HB)) (fun k_ h_ => h_)) (below_size (zb HB))); replace HO_0 := Aside0.mk (Kd.V_elder' (by (with_reducible repeat (first | apply Kd.V_alloc | apply Kd.V_drewN | apply Kd.V_drew)); exact HO_0.out) (Kd.R_base ho0) hb); replace HO_1 := Aside0.mk (Kd.V_elder' (by (with_reducible repeat (first | apply Kd.V_alloc | apply Kd.V_drewN | apply Kd.V_drew)); exact HO_1.out) (Kd.R_base ho0) hb); replace HO_10 := Aside0.mk (Kd.N_elder' (zn HO_10.out) (Kd.R_base ho0) hb); replace HB := Aside0.mk (below_step (zb HB) hb); clear hb ho0) | ((with_reducible refine gate_callee (f := 53) rfl ?_); refine zG (some 25) Tryz.func53 #[.slice A1 l1.length c1] ?_; (with_reducible refine (image_sizes.calls _ _ l1 t111 _ ?side1 ?side2 A14.out).mono ?_); (case side1 => repeat (first | exact (Kd.V_reads' HO_1.out).2.2 | (with_reducible refine Kd.C_alloc ?_ _) | (with_reducible refine Kd.C_drewN ?_ _) | (with_reducible refine Kd.C_drew ?_))); (case side2 => exact (Kd.V_reads' HO_1.out).2.1); rintro e w18 ⟨v112, rfl, ho0, hb⟩; refine ⟨_, rfl, ?_⟩; have HO113 := Aside0.mk (Kd.R_lower (Kd.R_new' (Kd.R_newM (M := fun k_ => (w.heap.size ≤ k_)) ho0 (below_size (zb HB)) (fun k_ h_ => h_)) (Kd.R_lt (zr HO110.out))) (below_size (zb HB))); replace HO_0 := Aside0.mk (Kd.V_elder' (by (with_reducible repeat (first | apply Kd.V_alloc | apply Kd.V_drewN | apply Kd.V_drew)); exact HO_0.out) (Kd.R_base ho0) hb); replace HO_1 := Aside0.mk (Kd.V_elder' (by (with_reducible repeat (first | apply Kd.V_alloc | apply Kd.V_drewN | apply Kd.V_drew)); exact HO_1.out) (Kd.R_base ho0) hb); replace HO_10 := Aside0.mk (Kd.N_elder' (zn HO_10.out) (Kd.R_base ho0) hb); replace HO110 := Aside0.mk (Kd.R_elder' (zr HO110.out) (Kd.R_base ho0) hb); replace HB := Aside0.mk (below_step (zb HB) hb); clear hb ho0; obtain ⟨Ao19, co19, eo19⟩ := Kd.R_slice HO110.out; subst eo19; obtain ⟨Ao20, co20, eo20⟩ := Kd.R_slice HO113.out; subst eo20) | ((with_reducible refine gate_callee (f := 68) rfl ?_); refine zG (some 26) Tryz.func68 #[.slice Ao19 t108.length co19, .slice Ao20 t111.length co20] ?_; (with_reducible refine (slices_Equal_int_int.calls k1 _ _ t108 _ _ t111 true _ ?side1 ?side2 ?side3 ?side4 A15.out).mono ?_); (case side1 => repeat (first | exact (Kd.R_reads' HO110.out).2.2 | (with_reducible refine Kd.C_alloc ?_ _) | (with_reducible refine Kd.C_drewN ?_ _) | (with_reducible refine Kd.C_drew ?_))); (case side2 => exact (Kd.R_reads' HO110.out).2.1); (case side3 => repeat (first | exact (Kd.R_reads' HO113.out).2.2 | (with_reducible refine Kd.C_alloc ?_ _) | (with_reducible refine Kd.C_drewN ?_ _) | (with_reducible refine Kd.C_drew ?_))); (case side4 => exact (Kd.R_reads' HO113.out).2.1); rintro e w' ⟨rfl, ⟨nd, rfl⟩⟩; refine ⟨_, rfl, ?_⟩))
          go_ret
          exact ⟨by first | rfl | (simp [errW_none, errW_some] <;> rfl) | (simp [*, errW_none, errW_some] <;> rfl), zb HB⟩
        · replace c16 := Bool.eq_false_iff.mpr c16
          subst c16
          have H1 : (some 22) = some r := by rw [if_neg (show ¬ (false = true) by decide)] at H; exact H
          clear H
          have H := H1
          clear H1
          obtain rfl := Option.some.inj H
          go_wp2_with (first | ((with_reducible refine gate_callee (f := 53) rfl ?_); refine zG (some 23) Tryz.func53 #[.slice A0 l0.length c0] ?_; (with_reducible refine (image_sizes.calls _ _ l0 t108 _ ?side1 ?side2 A13.out).mono ?_); (case side1 => repeat (first | exact (Kd.V_reads' HO_0.out).2.2 | (with_reducible refine Kd.C_alloc ?_ _) | (with_reducible refine Kd.C_drewN ?_ _) | (with_reducible refine Kd.C_drew ?_))); (case side2 => exact (Kd.V_reads' HO_0.out).2.1); rintro e w21 ⟨v109, rfl, ho0, hb⟩; refine ⟨_, rfl, ?_⟩; have HO110 := Aside0.mk (Kd.R_lower (Kd.R_newM (M := fun k_ => (w.heap.size ≤ k_)) ho0 (below_size (zb HB)) (fun k_ h_ => h_)) (below_size (zb HB))); replace HO_0 := Aside0.mk (Kd.V_elder' (by (with_reducible repeat (first | apply Kd.V_alloc | apply Kd.V_drewN | apply Kd.V_drew)); exact HO_0.out) (Kd.R_base ho0) hb); replace HO_1 := Aside0.mk (Kd.V_elder' (by (with_reducible repeat (first | apply Kd.V_alloc | apply Kd.V_drewN | apply Kd.V_drew)); exact HO_1.out) (Kd.R_base ho0) hb); replace HO_10 := Aside0.mk (Kd.N_elder' (zn HO_10.out) (Kd.R_base ho0) hb); replace HB := Aside0.mk (below_step (zb HB) hb); clear hb ho0) | ((with_reducible refine gate_callee (f := 53) rfl ?_); refine zG (some 25) Tryz.func53 #[.slice A1 l1.length c1] ?_; (with_reducible refine (image_sizes.calls _ _ l1 t111 _ ?side1 ?side2 A14.out).mono ?_); (case side1 => repeat (first | exact (Kd.V_reads' HO_1.out).2.2 | (with_reducible refine Kd.C_alloc ?_ _) | (with_reducible refine Kd.C_drewN ?_ _) | (with_reducible refine Kd.C_drew ?_))); (case side2 => exact (Kd.V_reads' HO_1.out).2.1); rintro e w22 ⟨v112, rfl, ho0, hb⟩; refine ⟨_, rfl, ?_⟩; have HO113 := Aside0.mk (Kd.R_lower (Kd.R_new' (Kd.R_newM (M := fun k_ => (w.heap.size ≤ k_)) ho0 (below_size (zb HB)) (fun k_ h_ => h_)) (Kd.R_lt (zr HO110.out))) (below_size (zb HB))); replace HO_0 := Aside0.mk (Kd.V_elder' (by (with_reducible repeat (first | apply Kd.V_alloc | apply Kd.V_drewN | apply Kd.V_drew)); exact HO_0.out) (Kd.R_base ho0) hb); replace HO_1 := Aside0.mk (Kd.V_elder' (by (with_reducible repeat (first | apply Kd.V_alloc | apply Kd.V_drewN | apply Kd.V_drew)); exact HO_1.out) (Kd.R_base ho0) hb); replace HO_10 := Aside0.mk (Kd.N_elder' (zn HO_10.out) (Kd.R_base ho0) hb); replace HO110 := Aside0.mk (Kd.R_elder' (zr HO110.out) (Kd.R_base ho0) hb); replace HB := Aside0.mk (below_step (zb HB) hb); clear hb ho0; obtain ⟨Ao23, co23, eo23⟩ := Kd.R_slice HO110.out; subst eo23; obtain ⟨Ao24, co24, eo24⟩ := Kd.R_slice HO113.out; subst eo24) | ((with_reducible refine gate_callee (f := 68) rfl ?_); refine zG (some 26) Tryz.func68 #[.slice Ao23 t108.length co23, .slice Ao24 t111.length co24] ?_; (with_reducible refine (slices_Equal_int_int.calls k1 _ _ t108 _ _ t111 false _ ?side1 ?side2 ?side3 ?side4 A15.out).mono ?_); (case side1 => repeat (first | exact (Kd.R_reads' HO110.out).2.2 | (with_reducible refine Kd.C_alloc ?_ _) | (with_reducible refine Kd.C_drewN ?_ _) | (with_reducible refine Kd.C_drew ?_))); (case side2 => exact (Kd.R_reads' HO110.out).2.1); (case side3 => repeat (first | exact (Kd.R_reads' HO113.out).2.2 | (with_reducible refine Kd.C_alloc ?_ _) | (with_reducible refine Kd.C_drewN ?_ _) | (with_reducible refine Kd.C_drew ?_))); (case side4 => exact (Kd.R_reads' HO113.out).2.1); rintro e w' ⟨rfl, ⟨nd, rfl⟩⟩; refine ⟨_, rfl, ?_⟩))
          go_ret
          exact ⟨by first | rfl | (simp [errW_none, errW_some] <;> rfl) | (simp [*, errW_none, errW_some] <;> rfl), zb HB⟩
def image_Differ.l0 : Nat → List (List (S59)) → List (List (S59)) → List (List (S61)) → Int → Int → Option ((List (List (S61))) × Int)
  | 0, _, _, _, _, _ => none
  | k + 1, x0, x1, x7, x16, x17 => if x17 < x16 then (if 0 ≤ x17 then (if x17 < (x0.length : Int) then (if x17 < (x1.length : Int) then ((image_extents.f (rd_L2 x0 x17) (rd_L2 x1 x17)).bind fun t118 => (if x7.length < 5864062014805 then (image_Differ.l0 k x0 x1 (x7 ++ [t118]) x16 (wrap64 (x17 + 1))) else (none))) else (none)) else (none)) else (none)) else (some (x7, 0))
def image_Differ.f (k : Nat) (l0 : List (List (S59))) (l1 : List (List (S59))) : Option ((List (List (S61))) × Int) := (image_pair.f k l0 l1).bind fun t115 => (if t115 = 0 then (image_Differ.l0 k l0 l1 ([] : List (List (S61))) (l0.length : Int) 0) else (some (([] : List (List (S61))), t115)))
def image_Differ.T8 : Bool × List (List Nat × List Nat) := (true, [([], []), ([], []), ([], []), ([1, 2], [1, 2]), ([3], [3]), ([], []), ([], []), ([5, 6], [5, 6]), ([7], [7]), ([4, 8], [4, 8]), ([9], [9]), ([0, 10, 9], [0, 10]), ([11, 11, 0, 1, 2, 3, 4, 5, 6, 7, 8, 9, 10, 11], [0, 11])])
def image_Differ.B8 : List Nat := [0, 0, 0, 6, 14, 0, 0, 96, 224, 510, 1022, 2047, 4095]
theorem image_Differ.tab8 : rtab .any (opsOf Tryz.f14 8) = image_Differ.T8 := by kernel_rfl
theorem image_Differ.bits8 : waitsOk image_Differ.T8.2 image_Differ.B8 = true := by kernel_rfl
set_option maxHeartbeats 8000000 in
set_option maxRecDepth 100000 in
theorem image_Differ.calls (k : Nat) (A0 : Option Addr) (c0 : Nat) (l0 : List (List (S59))) (A1 : Option Addr) (c1 : Nat) (l1 : List (List (S59))) (r1 : List (List (S61))) (r2 : Int) (w : World) (hr0 : Kd.C (Kd.slice 59 k59) w A0 l0.length l0) (hc0 : l0.length ≤ c0) (hr1 : Kd.C (Kd.slice 59 k59) w A1 l1.length l1) (hc1 : l1.length ≤ c1) (h : image_Differ.f k l0 l1 = some (r1, r2)) :
    Calls Tryz.prog 14 #[.slice A0 l0.length c0, .slice A1 l1.length c1] w fun e w' => ∃ v0_ : Value, e = .returned (.tuple #[v0_, .int .i64 r2]) ∧ Kd.S (Kd.slice 61 k61) 57 w' w.heap.size (fun _ => True) v0_ r1 ∧ Below w.heap.size w w' := by
  have HR0 := Aside0.mk hr0
  have HC0 := Aside0.mk hc0
  clear hr0 hc0
  have HR1 := Aside0.mk hr1
  have HC1 := Aside0.mk hc1
  clear hr1 hc1
  have HB := Aside0.mk (Below.refl w.heap.size w)
  have H : ((image_pair.f k l0 l1).bind fun t115 => (if t115 = 0 then (image_Differ.l0 k l0 l1 ([] : List (List (S61))) (l0.length : Int) 0) else (some (([] : List (List (S61))), t115)))) = some (r1, r2) := h
  clear h
  replace H := Option.bind_eq_some_iff.mp H
  obtain ⟨t115, A30, H⟩ := H
  replace H : (if t115 = 0 then (image_Differ.l0 k l0 l1 ([] : List (List (S61))) (l0.length : Int) 0) else (some (([] : List (List (S61))), t115))) = some (r1, r2) := H
  have A3 := Aside0.mk A30
  clear A30
  by_cases c4 : t115 = 0
  · rw [if_pos c4] at H
    have c4b0 : (t115 == 0) = true := beq_iff_eq.mpr c4
    have c4b1 : (t115 != 0) = false := bne_eq_false_iff_eq.mpr c4
    clear c4
    have H' := Aside0.mk H
    clear H
    go_enter Tryz.func14, Tryz.ntmps14
    go_wp2_with (first | ((with_reducible refine gate_callee (f := 37) rfl ?_); refine zG (some 11) Tryz.func37 #[.slice A0 l0.length c0, .slice A1 l1.length c1] ?_; (with_reducible refine (image_pair.calls k (fun k_ => k_ < w.heap.size) _ _ l0 (fun k_ => k_ < w.heap.size) _ _ l1 t115 _ ?side1 ?side2 A3.out).mono ?_); (case side1 => exact Kd.V_mk HC0.out (Kd.F_below (Kd.C_F (Kd.heap_slice 59 k59_heap) HR0.out) (zb HB))); (case side2 => exact Kd.V_mk HC1.out (Kd.F_below (Kd.C_F (Kd.heap_slice 59 k59_heap) HR1.out) (zb HB))); rintro e w5 ⟨rfl, hb⟩; refine ⟨_, rfl, ?_⟩; replace HB := Aside0.mk (below_step (zb HB) hb); clear hb))
    go_loopg [7, 17] k (fun kq v7 v17 w' => ∃ (x7_1 : List (List (S61))) (x17_1 : Int), v17 = .int .i64 x17_1 ∧ Aside0 (image_Differ.l0 kq l0 l1 x7_1 (l0.length : Int) x17_1 = some (r1, r2)) ∧ Aside0 (kq ≤ k) ∧ Aside0 (Kd.S (Kd.slice 61 k61) 57 w' w.heap.size (fun _ => True) v7 x7_1) ∧ Aside0 (Below w.heap.size w w'))
    case atStart => exact ⟨(([] : List (List (S61)))), (0), (by first | rfl | (simp; done) | (simp [*]; done)), H', ⟨Nat.le_refl _⟩, ⟨by first | exact Kd.S_nil _ _ _ _ _ | exact Kd.N_nil _ _ _ _ _ | exact Kd.V_nil _ _ _ _ _ | exact Kd.Q_nil _ _ _ _ _ | exact Kd.R_nil _ _ _ _ _⟩, ⟨zb HB⟩⟩
    case round =>
      clear H'
      try clear c1
      try clear p2
      try clear c3
      try clear c4
      try clear c4b0
      try clear c4b1
      obtain ⟨x7_1, x17_1, rfl, HA, HK1, HO_7, HB⟩ := hrel
      cases gk with
      | zero => exact absurd HA.out (by simp [image_Differ.l0])
      | succ k1 =>
        have H := HA.out
        clear HA
        simp only [image_Differ.l0] at H
        by_cases c6 : x17_1 < (l0.length : Int)
        · rw [if_pos c6] at H
          have c6b0 : decide (x17_1 < (l0.length : Int)) = true := decide_eq_true c6
          clear c6
          by_cases c7 : 0 ≤ x17_1
          · rw [if_pos c7] at H
            have c7b0 : decide (0 ≤ x17_1) = true := decide_eq_true c7
            clear c7
            by_cases c8 : x17_1 < (l0.length : Int)
            · rw [if_pos c8] at H
              have c8b0 : decide (x17_1 < (l0.length : Int)) = true := decide_eq_true c8
              clear c8
              by_cases c9 : x17_1 < (l1.length : Int)
              · rw [if_pos c9] at H
                have c9b0 : decide (x17_1 < (l1.length : Int)) = true := decide_eq_true c9
                clear c9
                replace H := Option.bind_eq_some_iff.mp H
                obtain ⟨t118, A100, H⟩ := H
                replace H : (if x7_1.length < 5864062014805 then (image_Differ.l0 k1 l0 l1 (x7_1 ++ [t118]) (l0.length : Int) (wrap64 (x17_1 + 1))) else (none)) = some (r1, r2) := H
                have A10 := Aside0.mk A100
                clear A100
                by_cases c11 : x7_1.length < 5864062014805
                · rw [if_pos c11] at H
                  have LMc11 := Aside0.mk c11
                  clear c11
                  obtain ⟨y121, hy121⟩ : ∃ y_ : List (List (S61)), y_ = (x7_1 ++ [t118]) := ⟨_, rfl⟩
                  replace H : (image_Differ.l0 k1 l0 l1 y121 (l0.length : Int) (wrap64 (x17_1 + 1))) = some (r1, r2) := by first | (rw [hy121]; with_reducible exact H) | (have H2_ := (Option.bind_some _ _).symm.trans H; rw [hy121]; with_reducible exact H2_) | (have H2_ := (Option.bind_some _ _).symm.trans H; with_reducible exact H2_) | with_reducible exact H | (rw [hy121]; exact H) | exact H
                  have Ny121 := Aside0.mk hy121
                  clear hy121
                  have H' := Aside0.mk H
                  clear H
                  try go_wp2
                  replace HO_7 := Aside0.mk (Kd.S_drew HO_7.out)
                  replace HB := Aside0.mk (below_drew1 HB.out)
                  have p116 : 0 ≤ (x17_1 : Int) := of_decide_eq_true (by first | (with_reducible assumption) | assumption)
                  have q116 : x17_1 < (l0.length : Int) := of_decide_eq_true (by first | (with_reducible assumption) | assumption)
                  obtain ⟨ad116, A116_0, c116_0, e116, hx116_0, hl116_0, hi116_0⟩ := at_L2 HR0.out x17_1 p116 q116
                  have hw116_0 := hx116_0
                  cases e116
                  replace hx116_0 := (HB.out.cell (World.block_lt_of_cell? w _ hx116_0)).trans hx116_0
                  have HR116_0 := Aside0.mk hi116_0
                  have HC116_0 := Aside0.mk hl116_0
                  clear hi116_0 hl116_0
                  replace p116 := eq_true p116
                  replace q116 := eq_true q116
                  have p117 : 0 ≤ (x17_1 : Int) := of_decide_eq_true (by first | (with_reducible assumption) | assumption)
                  have q117 : x17_1 < (l1.length : Int) := of_decide_eq_true (by first | (with_reducible assumption) | assumption)
                  obtain ⟨ad117, A117_0, c117_0, e117, hx117_0, hl117_0, hi117_0⟩ := at_L2 HR1.out x17_1 p117 q117
                  have hw117_0 := hx117_0
                  cases e117
                  replace hx117_0 := (HB.out.cell (World.block_lt_of_cell? w _ hx117_0)).trans hx117_0
                  have HR117_0 := Aside0.mk hi117_0
                  have HC117_0 := Aside0.mk hl117_0
                  clear hi117_0 hl117_0
                  replace p117 := eq_true p117
                  replace q117 := eq_true q117
                  refine start_ (n := 13) (S := fun w' => w'.cell? (ad116.add (x17_1).toNat) = some (.slice A116_0 (rd_L2 l0 x17_1).length c116_0) ∧ w'.cell? (ad117.add (x17_1).toNat) = some (.slice A117_0 (rd_L2 l1 x17_1).length c117_0)) (ds := []) #[false, false, false, false, false, false, false, false, false, false, false, false, false] (by kernel_rfl) rfl rfl ⟨((HB.out.cell (World.block_lt_of_cell? w _ hw116_0)).trans hw116_0), ((HB.out.cell (World.block_lt_of_cell? w _ hw117_0)).trans hw117_0)⟩ (fun hHeld => ?_); refine with_tabW image_Differ.tab8 image_Differ.bits8 (fun HT_ HW_ => ?_)
                  generalize wr.drew = w12 at HO_7 HB HR116_0 HR117_0 hx116_0 hx117_0 hHeld ⊢
                  refine zp 0 20 HT_.out ?_
                  refine zp 1 21 HT_.out ?_
                  refine zp 2 22 HT_.out ?_
                  refine zp 3 23 HT_.out ?_
                  refine zp 5 25 HT_.out ?_
                  refine zp 6 26 HT_.out ?_
                  refine zp 7 27 HT_.out ?_
                  refine take_ (i := 4) (N := some 24) (v := ?_) (a' := ?_) #[true, true, true, true, true, true, true, true, false, false, false, false, false] rfl rfl (take_ofW HT_.out HW_.out (by kernel_rfl)) (fun _ _ _ h => h) (Or.inl ⟨by rfl, ?_⟩) hHeld ?_ ?_
                  rotate_left
                  · rintro w' ⟨s0, s1⟩
                    go_simp
                    with_reducible rfl
                  rotate_left
                  · simp only [Act.put, List.setIfInBounds_toArray, List.set_cons_zero, List.set_cons_succ, i64_w, i32_w]
                    rfl
                  refine take_ (i := 8) (N := some 28) (v := ?_) (a' := ?_) #[true, true, true, true, true, true, true, true, true, false, false, false, false] rfl rfl (take_ofW HT_.out HW_.out (by kernel_rfl)) (fun _ _ _ h => h) (Or.inl ⟨by rfl, ?_⟩) hHeld ?_ ?_
                  rotate_left
                  · rintro w' ⟨s0, s1⟩
                    go_simp
                    with_reducible rfl
                  rotate_left
                  · simp only [Act.put, List.setIfInBounds_toArray, List.set_cons_zero, List.set_cons_succ, i64_w, i32_w]
                    rfl
                  refine one_ (i := 9) (N := some 29) #[true, true, true, true, true, true, true, true, true, true, false, false, false] rfl rfl (one_of HT_.out (by kernel_rfl)) (by decide) (fun K hK => ?_)
                  refine goes_ Tryz.func38 (by kernel_rfl) rfl #[.slice A116_0 (rd_L2 l0 x17_1).length c116_0, .slice A117_0 (rd_L2 l1 x17_1).length c117_0] (by rfl) rfl rfl (by (try simp only [List.map_toArray, List.map_cons, List.map_nil]); first | done | rfl | (simp only [List.length_drop, List.length_take]; rfl)) ?_
                  with_reducible refine (image_extents.calls _ _ (rd_L2 l0 x17_1) _ _ (rd_L2 l1 x17_1) t118 _ ?side1 ?side2 ?side3 ?side4 A10.out).mono ?_
                  (case side1 => exact zc HR116_0 HB)
                  (case side2 => exact HC116_0.out)
                  (case side3 => exact zc HR117_0 HB)
                  (case side4 => exact HC117_0.out)
                  rintro e w13 ⟨v119, rfl, ho0, hb⟩
                  refine ⟨_, rfl, ?_⟩
                  have HO120 := Aside0.mk (Kd.R_lower ho0 (below_size (zb HB)))
                  replace HO_7 := Aside0.mk (Kd.S_elder' (zs HO_7.out) (Kd.R_base ho0) hb)
                  replace HB := Aside0.mk (below_step (zb HB) hb)
                  (try clear hb)
                  (try clear hb2)
                  (try clear hk)
                  (try clear hi)
                  (try clear ho0)
                  obtain ⟨Ao15, co15, eo15⟩ := Kd.R_slice HO120.out
                  (first | subst eo15 | (injection eo15 with f1_ f2_ f3_; have f4_ := f1_.symm; have f5_ := f3_.symm; clear f1_ f2_ f3_; subst f4_; subst f5_))
                  refine hK.out _ _ ⟨((HB.out.cell (World.block_lt_of_cell? w _ hw116_0)).trans hw116_0), ((HB.out.cell (World.block_lt_of_cell? w _ hw117_0)).trans hw117_0)⟩ (fun hHeld => ?_)
                  clear hK K
                  refine norm_ (a' := ?_) ?_ ?_
                  rotate_left
                  · show Act.put _ (some 29) _ = _
                    simp only [Act.put, List.setIfInBounds_toArray, List.set_cons_zero, List.set_cons_succ, i64_w, i32_w]
                    rfl
                  refine one_ (i := 10) (N := some 30) #[true, true, true, true, true, true, true, true, true, true, true, false, false] rfl rfl (one_of HT_.out (by kernel_rfl)) (by decide) (fun K hK => ?_)
                  refine value_ (w1 := ?_) (v := ?_) (by rfl) rfl ?_ ?_
                  rotate_left 2
                  · go_simp
                    constructor
                    · rfl
                    · rfl
                  refine hK.out _ _ ⟨(World.cell?_alloc_lt _ _ _ (World.block_lt_of_cell? _ _ (((HB.out.cell (World.block_lt_of_cell? w _ hw116_0)).trans hw116_0)))).trans (((HB.out.cell (World.block_lt_of_cell? w _ hw116_0)).trans hw116_0)), (World.cell?_alloc_lt _ _ _ (World.block_lt_of_cell? _ _ (((HB.out.cell (World.block_lt_of_cell? w _ hw117_0)).trans hw117_0)))).trans (((HB.out.cell (World.block_lt_of_cell? w _ hw117_0)).trans hw117_0))⟩ (fun hHeld => ?_)
                  clear hK K
                  refine norm_ (a' := ?_) ?_ ?_
                  rotate_left
                  · show Act.put _ (some 30) _ = _
                    simp only [Act.put, List.setIfInBounds_toArray, List.set_cons_zero, List.set_cons_succ, i64_w, i32_w]
                    rfl
                  refine one_ (i := 11) (N := some 31) #[true, true, true, true, true, true, true, true, true, true, true, true, false] rfl rfl (one_of HT_.out (by kernel_rfl)) (by decide) (fun K hK => ?_)
                  refine Kd.S_append_step (Kd.slice 61 k61) (w0 := w) w.heap.size (by rfl) (.tmp 20) (.tmp 30) 24 57 (.slice none 0 0) 24 rfl Tryz.underlying24 info57 rfl (by decide) (by omega) u7 x7_1 t118 [.slice Ao15 t118.length co15] (fun _ => True) (fun k_ => some k_ = (.slice Ao15 t118.length co15 : Value).ownBlock) rfl rfl ?aP (fun k_ hk_ => ((Kd.R_mono (ok' := fun k_ => ((fun _ => True)) k_ ∧ some k_ ≠ (u7 : Value).ownBlock) (Kd.R_apart' (HO120.out) (Kd.S_typed HO_7.out) (by decide)) (fun k_ hk => ⟨trivial, hk.2⟩))).1 k_ hk_.symm) ?aF ?aO ?aB ?aS ?aL ?_
                  (case aP => exact Kd.M_row (Kd.R_mono (Kd.R_tight rfl (Kd.R_mono (ok' := fun k_ => ((fun _ => True)) k_ ∧ some k_ ≠ (u7 : Value).ownBlock) (Kd.R_apart' (HO120.out) (Kd.S_typed HO_7.out) (by decide)) (fun k_ hk => ⟨trivial, hk.2⟩))) (fun _ h_ => h_)))
                  (case aB => exact (zb HB))
                  (case aF => exact (fun _ _ => trivial))
                  (case aO => exact (by (with_reducible repeat (first | apply Kd.S_alloc | apply Kd.S_drewN | apply Kd.S_drew)); exact Kd.S_mono HO_7.out (fun k_ hk => ⟨trivial, fun e_ => hk.2 e_⟩)))
                  (case aS => exact (below_size (zb HB)))
                  (case aL => have := LMc11.out; omega)
                  intro v122 w14 ho hb hg hat
                  rw [← Ny121.out] at ho
                  have n0_ := Aside0.mk (hb)
                  have n1_ := Aside0.mk (ho)
                  clear HB
                  clear HO_7
                  clear HO120
                  have HB := n0_
                  have HO123 := n1_
                  clear n0_ n1_
                  clear ho hb hg hat
                  refine hK.out _ _ ⟨((HB.out.cell (World.block_lt_of_cell? w _ hw116_0)).trans hw116_0), ((HB.out.cell (World.block_lt_of_cell? w _ hw117_0)).trans hw117_0)⟩ (fun hHeld => ?_)
                  clear hK K
                  refine norm_ (a' := ?_) ?_ ?_
                  rotate_left
                  · show Act.put _ (some 31) _ = _
                    simp only [Act.put, List.setIfInBounds_toArray, List.set_cons_zero, List.set_cons_succ, i64_w, i32_w]
                    rfl
                  refine zp 12 7 HT_.out ?_
                  refine done_ (done_of HT_.out (by kernel_rfl)) ?_
                  try go_wp2
                  go_roundg k1
                  case measure => have := HK1.out; omega
                  case rel => exact ⟨(y121), (wrap64 (x17_1 + 1)), (by first | rfl | (simp; done) | (simp [*]; done)), H', ⟨by have := HK1.out; omega⟩, ⟨by (with_reducible repeat (first | apply Kd.S_alloc | apply Kd.S_drewN | apply Kd.S_drew)); exact HO123.out⟩, ⟨zb HB⟩⟩
                · rw [if_neg c11] at H
                  exact absurd H (by simp)
              · rw [if_neg c9] at H
                exact absurd H (by simp)
            · rw [if_neg c8] at H
              exact absurd H (by simp)
          · rw [if_neg c7] at H
            exact absurd H (by simp)
        · rw [if_neg c6] at H
          have c6b0 : decide (x17_1 < (l0.length : Int)) = false := decide_eq_false c6
          clear c6
          simp only [Option.some.injEq, Prod.mk.injEq] at H
          obtain ⟨rfl, rfl⟩ := H
          go_wp2
          go_ret2
          exact ⟨_, by first | rfl | (simp [errW_none, errW_some] <;> rfl) | (simp [*, errW_none, errW_some] <;> rfl), by (with_reducible repeat (first | apply Kd.S_alloc | apply Kd.S_drewN | apply Kd.S_drew)); exact HO_7.out, zb HB⟩
  · rw [if_neg c4] at H
    have c4b0 : (t115 == 0) = false := beq_eq_false_iff_ne.mpr c4
    have c4b1 : (t115 != 0) = true := bne_iff_ne.mpr c4
    simp only [Option.some.injEq, Prod.mk.injEq] at H
    obtain ⟨rfl, rfl⟩ := H
    go_enter Tryz.func14, Tryz.ntmps14
    go_wp2_with (first | ((with_reducible refine gate_callee (f := 37) rfl ?_); refine zG (some 11) Tryz.func37 #[.slice A0 l0.length c0, .slice A1 l1.length c1] ?_; (with_reducible refine (image_pair.calls k (fun k_ => k_ < w.heap.size) _ _ l0 (fun k_ => k_ < w.heap.size) _ _ l1 t115 _ ?side1 ?side2 A3.out).mono ?_); (case side1 => exact Kd.V_mk HC0.out (Kd.F_below (Kd.C_F (Kd.heap_slice 59 k59_heap) HR0.out) (zb HB))); (case side2 => exact Kd.V_mk HC1.out (Kd.F_below (Kd.C_F (Kd.heap_slice 59 k59_heap) HR1.out) (zb HB))); rintro e w16 ⟨rfl, hb⟩; refine ⟨_, rfl, ?_⟩; replace HB := Aside0.mk (below_step (zb HB) hb); clear hb))
    go_ret2
    exact ⟨_, by first | rfl | (simp [errW_none, errW_some] <;> rfl) | (simp [*, errW_none, errW_some] <;> rfl), by first | exact Kd.S_nil _ _ _ _ _ | exact Kd.N_nil _ _ _ _ _ | exact Kd.V_nil _ _ _ _ _ | exact Kd.Q_nil _ _ _ _ _ | exact Kd.R_nil _ _ _ _ _, zb HB⟩
end Go.Proofs.YtdplnbmioioniaaGreat.Pq
end
section
namespace Go.Proofs.YtdplnbmioioniaaGreat.Pq
open Go.RowKit Go.Proofs.YtdplnbmioioniaaGreatW.PrintWords Go.Proofs.YtdplnbmioioniaaGreatW.PrintLast Go.Proofs.YtdplnbmioioniaaGreatW.PrintMore
attribute [local go_sem] max2_int min2_int max_two min_two max_three min_three max_four min_four
set_option linter.unusedVariables false
set_option linter.unusedSimpArgs false
theorem eqA61 (d : Nat) (w : World) (x0 y0 : Int) (x1 y1 : Int) :
    (Op.equalIn (d + 2) 61 (.agg #[.int .i64 x0, .int .i64 x1]) (.agg #[.int .i64 y0, .int .i64 y1])).run Tryz.prog w = .ok (x0 == y0 && (x1 == y1)) w := by
  refine eqA_of Tryz.underlying61 (by kernel_rfl) ?_
  refine eqf_cons (by rfl) (by go_simp; rfl) (by go_simp; rfl) (by go_simp) ?_
  exact eqf_last (by rfl) (by go_simp; rfl) (by go_simp; rfl) (by go_simp)
end Go.Proofs.YtdplnbmioioniaaGreat.Pq
end
