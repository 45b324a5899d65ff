/- The document's disk (narthexref03): counting, a new one, a crash. -/
import Derived.Test.YtdikkkappcpdcaaRef3c
import Derived.Test.YtdikkkappcpdcaaOpen
namespace Go.Proofs
open Go Go.RowKit Go.Nx
set_option maxRecDepth 100000
set_option linter.unusedVariables false

/-- How many of the first k are on. -/
def cnt (l : List Bool) (k : Nat) : Nat := (l.take k).count true
theorem cnt_succ (l : List Bool) (k : Nat) (h : k < l.length) : cnt l (k + 1) = cnt l k + if l.getD k false = true then 1 else 0 := by
  unfold cnt
  rw [List.take_succ_eq_append_getElem h, List.count_append]
  have : l.getD k false = l[k] := by simp [List.getD, h]
  rw [this]
  cases l[k] <;> simp
theorem cnt_le (l : List Bool) (k : Nat) : cnt l k ≤ k := by
  unfold cnt
  have h1 := List.count_le_length (a := true) (l := l.take k)
  have h2 : (l.take k).length ≤ k := List.length_take_le _ _
  omega

def CntInv (w : World) (R : RM) (k : Nat) (m i : Value) (wr : World) : Prop :=
  ∃ n : Nat, m = .int .i64 (cnt R.on n) ∧ i = .int .i64 n ∧ k + n = R.last.length ∧ wr = w

set_option maxHeartbeats 800000 in
theorem rcached_any (w : World) (r lb nb ob : Nat) (R : RM) (h : RefAt w r lb nb ob R) :
    Calls Try.prog 28 #[ptr r] w fun e w' => e = .returned (.int .i64 (cnt R.on R.last.length)) ∧ w = w' := by
  have c2 : w.cell? ⟨r, 2, none⟩ = _ := h.rcd.cell 2
  simp only [List.getElem?_cons_zero, List.getElem?_cons_succ] at c2
  have hlen := h.len
  have hH := Lib.hid h
  clear h
  go_enter Try.func28, Try.ntmps28
  go_wp2_with fail
  go_loopg [3, 4] R.last.length (fun k m i wr => CntInv w R k m i wr)
  case atStart => exact ⟨0, by simp [cnt], rfl, rfl, rfl⟩
  case round =>
    obtain ⟨n, rfl, rfl, hk, hw⟩ := hrel
    subst hw
    by_cases hlt : n < R.last.length
    · have hol := hH.out.ol
      have hcb := bs_cell hH.out.o n (by omega)
      have hsu := cnt_succ R.on n (by omega)
      have hle := cnt_le R.on n
      have hi : (n : Int) < (R.last.length : Int) := by omega
      cases hb : R.on.getD n false with
      | true =>
        rw [hb] at hcb hsu
        have hfin : CntInv wr R (gk - 1) (.int .i64 ((cnt R.on n : Int) + 1)) (.int .i64 ((n : Int) + 1)) wr ∧ gk - 1 < gk := ⟨⟨n + 1, by rw [hsu]; rfl, rfl, by omega, rfl⟩, by omega⟩
        have hfinH := Lib.hid hfin
        clear hfin
        clear hsu hb hol
        go_wp2
        go_roundg (gk - 1)
        case measure => exact hfinH.out.2
        case rel => exact hfinH.out.1
      | false =>
        rw [hb] at hcb hsu
        have hfin : CntInv wr R (gk - 1) (.int .i64 (cnt R.on n)) (.int .i64 ((n : Int) + 1)) wr ∧ gk - 1 < gk := ⟨⟨n + 1, by rw [hsu]; simp, rfl, by omega, rfl⟩, by omega⟩
        have hfinH := Lib.hid hfin
        clear hfin
        clear hsu hb hol
        go_wp2
        go_roundg (gk - 1)
        case measure => exact hfinH.out.2
        case rel => exact hfinH.out.1
    · have hn : n = R.last.length := by omega
      subst hn
      go_wp2
      go_ret
      exact ⟨rfl, rfl⟩

theorem heap_alloc_get (w : World) (o : Obj) (k : Nat) : (w.alloc o).heap[k]? = if k = w.heap.size then some o else w.heap[k]? := by
  by_cases h : k = w.heap.size
  · subst h; rw [if_pos rfl]; exact heap_alloc_new w o
  · rw [if_neg h]
    show (w.heap.push o)[k]? = _
    rw [Array.getElem?_push, if_neg h]

theorem run_makeSlice_bool (n : Int) (h0 : 0 ≤ n) (hn : n ≤ 1000000) (w : World) :
    (Instr.makeSlice 52 (.int .i64 n) (.int .i64 n)).run Try.prog w = .ok (.slice (some ⟨w.heap.size, 0, none⟩) n.toNat n.toNat) (w.alloc (.cells (bs (List.replicate n.toNat false)).toArray 4)) := by
  have hinfo : (Try.prog.info? 4).map (fun i => (i.zero, i.size, i.bytes)) = some (some (.bool false), 1, 1) := by kernel_rfl
  obtain ⟨i, h1, h2, h3, h4⟩ : ∃ i, Try.prog.info? 4 = some i ∧ i.zero = some (.bool false) ∧ i.size = 1 ∧ i.bytes = 1 := by
    cases hq : Try.prog.info? 4 with
    | none => rw [hq] at hinfo; cases hinfo
    | some i => rw [hq] at hinfo; simp only [Option.map_some, Option.some.injEq, Prod.mk.injEq] at hinfo; exact ⟨i, rfl, hinfo⟩
  have := run_make w 52 4 i _ Try.underlying52 h1 h2 .i64 .i64 n n h0 (Int.le_refl _) (by rw [h4]; omega) (by omega)
  rw [this, h3, Nat.mul_one]
  congr 3
  have := madeCells_rep 0 (.bool false) n.toNat
  simpa [bs, Value.cells] using this

theorem new_ref {x : World} {r lb nb ob : Nat} {m : Nat} (hne : r ≠ lb ∧ r ≠ nb ∧ r ≠ ob ∧ lb ≠ nb ∧ lb ≠ ob ∧ nb ≠ ob)
    (hr : Blk x r 54 [.slice (some ⟨lb, 0, none⟩) m m, .slice (some ⟨nb, 0, none⟩) m m, .slice (some ⟨ob, 0, none⟩) m m, .int .i64 (-1), .bool false])
    (hl : Blk x lb 31 (flat (List.replicate m Pg.zero))) (hn : Blk x nb 31 (flat (List.replicate m Pg.zero))) (ho : Blk x ob 4 (bs (List.replicate m false))) (hm : m ≤ 512) :
    RefAt x r lb nb ob ⟨List.replicate m Pg.zero, List.replicate m Pg.zero, List.replicate m false, -1, false⟩ :=
  { rcd := by simpa using hr, l := hl, n := hn, o := ho, nl := by simp, ol := by simp, len := by simpa using hm, ne := hne, left := by simp }

theorem rnew_any (w : World) (n : Int) (h0 : 1 ≤ n) (h1 : n ≤ 512) :
    Calls Try.prog 21 #[.int .i64 n] w fun e w' => ∃ r lb nb ob, e = .returned (ptr r) ∧ RefAt w' r lb nb ob ⟨List.replicate n.toNat Pg.zero, List.replicate n.toNat Pg.zero, List.replicate n.toNat false, -1, false⟩ ∧ Fr [] w w' ∧ w.heap.size ≤ r ∧ w.heap.size ≤ lb ∧ w.heap.size ≤ nb ∧ w.heap.size ≤ ob := by
  have hms := run_makeSlice_pg (P := Try.prog) pgTy Try.underlying23 n (by omega) (by omega)
  have hmb := run_makeSlice_bool n (by omega) (by omega)
  go_enter Try.func21, Try.ntmps21
  go_wp2
  go_region
  all_goals go_wp2
  all_goals go_ret
  all_goals simp only [Array.getD_eq_getD_getElem?, List.getElem?_toArray, List.getElem?_cons_succ, List.getElem?_cons_zero, Option.getD_some, Ending.returned.injEq, Value.pointer.injEq, Option.some.injEq, Addr.mk.injEq, and_true]
  all_goals first
    | (refine ⟨_, w.heap.size, w.heap.size + 1, w.heap.size + 1 + 1, rfl, new_ref (by omega) ?_ ?_ ?_ ?_ (by omega), ?_, by omega, by omega, by omega, by omega⟩ <;> first | exact ((((((Fr.refl [] w).alloc _).alloc _).alloc _).alloc _).drew) | (unfold Blk; rw [heap_drew]; simp only [heap_alloc_get, World.size_alloc]; (repeat (first | rw [if_pos rfl] | rw [if_neg (by omega)])); rfl))
    | (refine ⟨_, w.heap.size, w.heap.size + 1 + 1, w.heap.size + 1, rfl, new_ref (by omega) ?_ ?_ ?_ ?_ (by omega), ?_, by omega, by omega, by omega, by omega⟩ <;> first | exact ((((((Fr.refl [] w).alloc _).alloc _).alloc _).alloc _).drew) | (unfold Blk; rw [heap_drew]; simp only [heap_alloc_get, World.size_alloc]; (repeat (first | rw [if_pos rfl] | rw [if_neg (by omega)])); rfl))
    | (refine ⟨_, w.heap.size + 1, w.heap.size, w.heap.size + 1 + 1, rfl, new_ref (by omega) ?_ ?_ ?_ ?_ (by omega), ?_, by omega, by omega, by omega, by omega⟩ <;> first | exact ((((((Fr.refl [] w).alloc _).alloc _).alloc _).alloc _).drew) | (unfold Blk; rw [heap_drew]; simp only [heap_alloc_get, World.size_alloc]; (repeat (first | rw [if_pos rfl] | rw [if_neg (by omega)])); rfl))
    | (refine ⟨_, w.heap.size + 1, w.heap.size + 1 + 1, w.heap.size, rfl, new_ref (by omega) ?_ ?_ ?_ ?_ (by omega), ?_, by omega, by omega, by omega, by omega⟩ <;> first | exact ((((((Fr.refl [] w).alloc _).alloc _).alloc _).alloc _).drew) | (unfold Blk; rw [heap_drew]; simp only [heap_alloc_get, World.size_alloc]; (repeat (first | rw [if_pos rfl] | rw [if_neg (by omega)])); rfl))
    | (refine ⟨_, w.heap.size + 1 + 1, w.heap.size, w.heap.size + 1, rfl, new_ref (by omega) ?_ ?_ ?_ ?_ (by omega), ?_, by omega, by omega, by omega, by omega⟩ <;> first | exact ((((((Fr.refl [] w).alloc _).alloc _).alloc _).alloc _).drew) | (unfold Blk; rw [heap_drew]; simp only [heap_alloc_get, World.size_alloc]; (repeat (first | rw [if_pos rfl] | rw [if_neg (by omega)])); rfl))
    | (refine ⟨_, w.heap.size + 1 + 1, w.heap.size + 1, w.heap.size, rfl, new_ref (by omega) ?_ ?_ ?_ ?_ (by omega), ?_, by omega, by omega, by omega, by omega⟩ <;> first | exact ((((((Fr.refl [] w).alloc _).alloc _).alloc _).alloc _).drew) | (unfold Blk; rw [heap_drew]; simp only [heap_alloc_get, World.size_alloc]; (repeat (first | rw [if_pos rfl] | rw [if_neg (by omega)])); rfl))
theorem rnew_bad (w : World) (n : Int) (h : n < 1 ∨ 512 < n) :
    Calls Try.prog 21 #[.int .i64 n] w fun e w' => e = .returned (.pointer none) ∧ w = w' := by
  by_cases h0 : n < 1
  · clear h
    go_enter Try.func21, Try.ntmps21
    go_wp2
    go_ret
    exact ⟨rfl, rfl⟩
  · have h1 : 512 < n := by omega
    clear h
    go_enter Try.func21, Try.ntmps21
    go_wp2
    go_ret
    exact ⟨rfl, rfl⟩
end Go.Proofs
