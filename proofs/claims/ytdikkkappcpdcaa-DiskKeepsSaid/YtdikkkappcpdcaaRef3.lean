/- The document's disk (narthexref03): what each of its functions does. -/
import Derived.Test.YtdikkkappcpdcaaDsk3
import Derived.Test.YtdikkkappcpdcaaHeld
namespace Go.Proofs
open Go Go.RowKit Go.Nx
set_option maxRecDepth 100000
set_option linter.unusedVariables false

structure RM where
  last : List Pg
  new : List Pg
  on : List Bool
  left : Int
  down : Bool

def bs (l : List Bool) : List Value := l.map .bool

structure RefAt (w : World) (r lb nb ob : Nat) (R : RM) : Prop where
  rcd : Blk w r 54 [.slice (some ⟨lb, 0, none⟩) R.last.length R.last.length, .slice (some ⟨nb, 0, none⟩) R.last.length R.last.length, .slice (some ⟨ob, 0, none⟩) R.last.length R.last.length, .int .i64 R.left, .bool R.down]
  l : Blk w lb 31 (flat R.last)
  n : Blk w nb 31 (flat R.new)
  o : Blk w ob 4 (bs R.on)
  nl : R.new.length = R.last.length
  ol : R.on.length = R.last.length
  len : R.last.length ≤ 512
  ne : r ≠ lb ∧ r ≠ nb ∧ r ≠ ob ∧ lb ≠ nb ∧ lb ≠ ob ∧ nb ≠ ob
  left : -1 ≤ R.left ∧ R.left ≤ 9223372036854775807

theorem RefAt.keep {S : List Nat} {w w' : World} {r lb nb ob : Nat} {R : RM} (h : RefAt w r lb nb ob R) (hf : Fr S w w') (h1 : r ∉ S) (h2 : lb ∉ S) (h3 : nb ∉ S) (h4 : ob ∉ S) : RefAt w' r lb nb ob R :=
  { h with rcd := h.rcd.keep hf h1, l := h.l.keep hf h2, n := h.n.keep hf h3, o := h.o.keep hf h4 }

def RM.step (R : RM) : Bool × RM := if R.left = 0 then (false, { R with down := true }) else (true, { R with left := if 0 < R.left then R.left - 1 else R.left })

theorem rstep_any (w : World) (r lb nb ob : Nat) (R : RM) (h : RefAt w r lb nb ob R) :
    Calls Try.prog 52 #[ptr r] w fun e w' => e = .returned (.bool R.step.1) ∧ RefAt w' r lb nb ob R.step.2 ∧ Fr [r] w w' := by
  have c3 : w.cell? ⟨r, 3, none⟩ = some (.int .i64 R.left) := h.rcd.cell 3
  have c4 : w.cell? ⟨r, 4, none⟩ = some (.bool R.down) := h.rcd.cell 4
  have f3 := h.rcd.frozen 3
  have f4 := h.rcd.frozen 4
  obtain ⟨n1, n2, n3, n4, n5, n6⟩ := h.ne
  by_cases h0 : R.left = 0
  · have hF : Fr [r] w (w.setCell ⟨r, 4, none⟩ (.bool true)) := (Fr.refl [r] w).setCell _ _ (by simp)
    have hR : RefAt (w.setCell ⟨r, 4, none⟩ (.bool true)) r lb nb ob { R with down := true } :=
      { h with rcd := h.rcd.setCell_same 4 _, l := h.l.keep hF (by simpa using n1.symm), n := h.n.keep hF (by simpa using n2.symm), o := h.o.keep hF (by simpa using n3.symm) }
    have e : R.step = (false, { R with down := true }) := by simp [RM.step, h0]
    rw [e]
    rw [h0] at c3
    have hFH := Lib.hid hF
    have hRH := Lib.hid hR
    clear hF hR
    clear h h0 e n1 n2 n3 n4 n5 n6
    go_enter Try.func52, Try.ntmps52
    go_wp2
    go_ret
    exact ⟨rfl, hRH.out, hFH.out⟩
  · have hne : (R.left == 0) = false := by simpa using h0
    by_cases h1 : 0 < R.left
    · have hF : Fr [r] w (w.setCell ⟨r, 3, none⟩ (.int .i64 (R.left - 1))) := (Fr.refl [r] w).setCell _ _ (by simp)
      have hb := h.left
      have hR : RefAt (w.setCell ⟨r, 3, none⟩ (.int .i64 (R.left - 1))) r lb nb ob { R with left := R.left - 1 } :=
        { h with rcd := h.rcd.setCell_same 3 _, l := h.l.keep hF (by simpa using n1.symm), n := h.n.keep hF (by simpa using n2.symm), o := h.o.keep hF (by simpa using n3.symm), left := by simp only; omega }
      have e : R.step = (true, { R with left := R.left - 1 }) := by simp [RM.step, h0, h1]
      rw [e]
      have hFH := Lib.hid hF
      have hRH := Lib.hid hR
      clear hF hR
      clear h h0 e n1 n2 n3 n4 n5 n6
      go_enter Try.func52, Try.ntmps52
      go_wp2
      go_ret
      exact ⟨rfl, hRH.out, hFH.out⟩
    · have e : R.step = (true, R) := by simp [RM.step, h0, h1]
      rw [e]
      have hH := Lib.hid h
      clear h h0 e n1 n2 n3 n4 n5 n6
      go_enter Try.func52, Try.ntmps52
      go_wp2
      go_ret
      exact ⟨rfl, hH.out, .refl _ _⟩

def RM.fuse (R : RM) (n : Int) : RM := { R with left := if n < 0 then -1 else n }

theorem rfuse_any (w : World) (r lb nb ob : Nat) (R : RM) (h : RefAt w r lb nb ob R) (n : Int) (hn : n ≤ 9223372036854775807) :
    Calls Try.prog 25 #[ptr r, .int .i64 n] w fun e w' => e = .returned (.tuple #[]) ∧ RefAt w' r lb nb ob (R.fuse n) ∧ Fr [r] w w' := by
  have c3 : w.cell? ⟨r, 3, none⟩ = some (.int .i64 R.left) := h.rcd.cell 3
  have f3 := h.rcd.frozen 3
  obtain ⟨n1, n2, n3, n4, n5, n6⟩ := h.ne
  have key : ∀ (m : Int), -1 ≤ m → m ≤ 9223372036854775807 → ∀ w1, Fr [r] w w1 → Blk w1 r 54 ([.slice (some ⟨lb, 0, none⟩) R.last.length R.last.length, .slice (some ⟨nb, 0, none⟩) R.last.length R.last.length, .slice (some ⟨ob, 0, none⟩) R.last.length R.last.length, .int .i64 m, .bool R.down]) → RefAt w1 r lb nb ob { R with left := m } :=
    fun m hm hm' w1 hF hb => { h with rcd := hb, l := h.l.keep hF (by simpa using n1.symm), n := h.n.keep hF (by simpa using n2.symm), o := h.o.keep hF (by simpa using n3.symm), left := ⟨hm, hm'⟩ }
  by_cases h0 : n < 0
  · have hF : Fr [r] w ((w.setCell ⟨r, 3, none⟩ (.int .i64 n)).setCell ⟨r, 3, none⟩ (.int .i64 (-1))) := ((Fr.refl [r] w).setCell _ _ (by simp)).setCell _ _ (by simp)
    have hR := key (-1) (by omega) (by omega) _ hF ((h.rcd.setCell_same 3 (.int .i64 n)).setCell_same 3 _)
    have e : R.fuse n = { R with left := -1 } := by simp [RM.fuse, h0]
    rw [e]
    have hFH := Lib.hid hF
    have hRH := Lib.hid hR
    clear hF hR
    clear h e n1 n2 n3 n4 n5 n6 key
    go_enter Try.func25, Try.ntmps25
    go_wp2
    go_end0
    exact ⟨rfl, hRH.out, hFH.out⟩
  · have hF : Fr [r] w (w.setCell ⟨r, 3, none⟩ (.int .i64 n)) := (Fr.refl [r] w).setCell _ _ (by simp)
    have hR := key n (by omega) hn _ hF (h.rcd.setCell_same 3 (.int .i64 n))
    have e : R.fuse n = { R with left := n } := by simp [RM.fuse, h0]
    rw [e]
    have hFH := Lib.hid hF
    have hRH := Lib.hid hR
    clear hF hR
    clear h e n1 n2 n3 n4 n5 n6 key
    go_enter Try.func25, Try.ntmps25
    go_wp2
    go_end0
    exact ⟨rfl, hRH.out, hFH.out⟩

def RM.has (R : RM) (i : Int) : Int := if R.down then 5 else if i < 0 ∨ R.last.length ≤ i then 22 else 0
def RM.read (R : RM) (i : Int) : Pg × Int := if R.has i ≠ 0 then (Pg.zero, R.has i) else (if R.on.getD i.toNat false then R.new.getD i.toNat Pg.zero else R.last.getD i.toNat Pg.zero, 0)

theorem bs_cell {w : World} {ob : Nat} {t : TypeId} {l : List Bool} (h : Blk w ob t (bs l)) (i : Nat) (hi : i < l.length) : w.cell? ⟨ob, i, none⟩ = some (.bool (l.getD i false)) := by
  rw [h.cell]; simp [bs, List.getD, hi]

set_option maxHeartbeats 800000 in
theorem rread_any (w : World) (r lb nb ob : Nat) (R : RM) (h : RefAt w r lb nb ob R) (i : Int) :
    Calls Try.prog 23 #[ptr r, .int .i64 i] w fun e w' => e = .returned (.tuple #[pv (R.read i).1, .int .i64 (R.read i).2]) ∧ Fr [] w w' := by
  have hb1 := Blk.new w 31 (cl Pg.zero)
  have hf1 : Fr [] w (w.alloc zbox) := (Fr.refl _ _).alloc _
  have h0 : RefAt (w.alloc zbox) r lb nb ob R := h.keep hf1 (by simp) (by simp) (by simp) (by simp)
  have hal := run_alloc_pg (P := Try.prog) pgTy w
  have hbu := run_build_pg (P := Try.prog) pgTy (w.alloc zbox)
  have c0 : (w.alloc zbox).cell? ⟨r, 0, none⟩ = _ := h0.rcd.cell 0
  have c1 : (w.alloc zbox).cell? ⟨r, 1, none⟩ = _ := h0.rcd.cell 1
  have c2 : (w.alloc zbox).cell? ⟨r, 2, none⟩ = _ := h0.rcd.cell 2
  have c4 : (w.alloc zbox).cell? ⟨r, 4, none⟩ = _ := h0.rcd.cell 4
  simp only [List.getElem?_cons_zero, List.getElem?_cons_succ] at c0 c1 c2 c4
  cases hd : R.down with
  | true =>
    have e : R.read i = (Pg.zero, 5) := by simp [RM.read, RM.has, hd]
    rw [hd] at c4
    obtain ⟨w3, hst, hb3, hf3, hs3⟩ := store_box pgTy hb1 Pg.zero
    have hF : Fr [] w w3 := hf1.trans hf3 (by simp) (by simp)
    rw [e]
    have hFH := Lib.hid hF
    have hstH := Lib.hid hst
    have hb3H := Lib.hid hb3
    have halH := Lib.hid hal
    have hbuH := Lib.hid hbu
    clear hF hst hb3 hal hbu
    clear e h h0 hf3 hs3 hb1 hf1
    go_enter Try.func23, Try.ntmps23
    go_wp2_with (first
      | ((with_reducible refine wpList_alloc (halH.out) ?_ ?_); rfl)
      | ((with_reducible refine wpList_store (hstH.out) ?_ ?_ ?_ ?_); rfl; rfl; rfl)
      | ((with_reducible refine wpList_build0 (hbuH.out) ?_ ?_); rfl))
    exact bodyPost_ret (results_pg_tmp (q := Pg.zero) rfl pgTy _ rfl hb3H.out) rfl ⟨rfl, hFH.out⟩
  | false =>
    rw [hd] at c4
    by_cases h1 : i < 0
    · have e : R.read i = (Pg.zero, 22) := by simp [RM.read, RM.has, hd, h1]
      obtain ⟨w3, hst, hb3, hf3, hs3⟩ := store_box pgTy hb1 Pg.zero
      have hF : Fr [] w w3 := hf1.trans hf3 (by simp) (by simp)
      rw [e]
      have hFH := Lib.hid hF
      have hstH := Lib.hid hst
      have hb3H := Lib.hid hb3
      have halH := Lib.hid hal
      have hbuH := Lib.hid hbu
      clear hF hst hb3 hal hbu
      clear e h h0 hf3 hs3 hb1 hf1
      go_enter Try.func23, Try.ntmps23
      go_wp2_with (first
        | ((with_reducible refine wpList_alloc (halH.out) ?_ ?_); rfl)
        | ((with_reducible refine wpList_store (hstH.out) ?_ ?_ ?_ ?_); rfl; rfl; rfl)
        | ((with_reducible refine wpList_build0 (hbuH.out) ?_ ?_); rfl))
      exact bodyPost_ret (results_pg_tmp (q := Pg.zero) rfl pgTy _ rfl hb3H.out) rfl ⟨rfl, hFH.out⟩
    · by_cases h2 : (R.last.length : Int) ≤ i
      · have e : R.read i = (Pg.zero, 22) := by simp [RM.read, RM.has, hd, h2]
        obtain ⟨w3, hst, hb3, hf3, hs3⟩ := store_box pgTy hb1 Pg.zero
        have hF : Fr [] w w3 := hf1.trans hf3 (by simp) (by simp)
        rw [e]
        have hFH := Lib.hid hF
        have hstH := Lib.hid hst
        have hb3H := Lib.hid hb3
        have halH := Lib.hid hal
        have hbuH := Lib.hid hbu
        clear hF hst hb3 hal hbu
        clear e h h0 hf3 hs3 hb1 hf1
        go_enter Try.func23, Try.ntmps23
        go_wp2_with (first
          | ((with_reducible refine wpList_alloc (halH.out) ?_ ?_); rfl)
          | ((with_reducible refine wpList_store (hstH.out) ?_ ?_ ?_ ?_); rfl; rfl; rfl)
          | ((with_reducible refine wpList_build0 (hbuH.out) ?_ ?_); rfl))
        exact bodyPost_ret (results_pg_tmp (q := Pg.zero) rfl pgTy _ rfl hb3H.out) rfl ⟨rfl, hFH.out⟩
      · have hii : i.toNat < R.last.length := by omega
        have hcb := bs_cell h0.o i.toNat (by rw [h.ol]; exact hii)
        cases hon : R.on.getD i.toNat false with
        | true =>
          rw [hon] at hcb
          have hnl : i.toNat < R.new.length := by rw [h.nl]; exact hii
          have hix := run_index_row (P := Try.prog) (S := 23) Try.underlying23 pgTy.size nb R.last.length R.last.length i (by omega) (by omega) (w.alloc zbox)
          have hld := run_load_pg (P := Try.prog) pgTy (h0.n.range i.toNat hnl)
          have e : R.read i = (R.new[i.toNat], 0) := by simp [RM.read, RM.has, hd, h1, h2]; simp [List.getD] at hon; simp [List.getD, hon, hnl]
          generalize R.new[i.toNat] = q at *
          obtain ⟨w3, hst, hb3, hf3, hs3⟩ := store_box pgTy hb1 q
          have hF : Fr [] w w3 := hf1.trans hf3 (by simp) (by simp)
          rw [e]
          have hi0 : 0 ≤ i := by omega
          have hi1 : i < (R.last.length : Int) := by omega
          have hFH := Lib.hid hF
          have hstH := Lib.hid hst
          have hb3H := Lib.hid hb3
          have halH := Lib.hid hal
          have hldH := Lib.hid hld
          have hixH := Lib.hid hix
          clear hF hst hb3 hal hld hix
          clear e h h0 hf3 hs3 hb1 hf1 hbu hd hii
          go_enter Try.func23, Try.ntmps23
          go_wp2_with (first
            | ((with_reducible refine wpList_alloc (halH.out) ?_ ?_); rfl)
            | ((with_reducible refine wpList_store (hstH.out) ?_ ?_ ?_ ?_); rfl; rfl; rfl)
            | ((with_reducible refine wpList_load (hldH.out) ?_ ?_ ?_); rfl; rfl)
            | ((with_reducible refine wpList_indexAddr (hixH.out) ?_ ?_ ?_ ?_); rfl; rfl; rfl))
          exact bodyPost_ret (results_pg_tmp (q := q) rfl pgTy _ rfl hb3H.out) rfl ⟨rfl, hFH.out⟩
        | false =>
          rw [hon] at hcb
          have hix := run_index_row (P := Try.prog) (S := 23) Try.underlying23 pgTy.size lb R.last.length R.last.length i (by omega) (by omega) (w.alloc zbox)
          have hld := run_load_pg (P := Try.prog) pgTy (h0.l.range i.toNat hii)
          have e : R.read i = (R.last[i.toNat], 0) := by simp [RM.read, RM.has, hd, h1, h2]; simp [List.getD] at hon; simp [List.getD, hon, hii]
          generalize R.last[i.toNat] = q at *
          obtain ⟨w3, hst, hb3, hf3, hs3⟩ := store_box pgTy hb1 q
          have hF : Fr [] w w3 := hf1.trans hf3 (by simp) (by simp)
          rw [e]
          have hi0 : 0 ≤ i := by omega
          have hi1 : i < (R.last.length : Int) := by omega
          have hFH := Lib.hid hF
          have hstH := Lib.hid hst
          have hb3H := Lib.hid hb3
          have halH := Lib.hid hal
          have hldH := Lib.hid hld
          have hixH := Lib.hid hix
          clear hF hst hb3 hal hld hix
          clear e h h0 hf3 hs3 hb1 hf1 hbu hd hii
          go_enter Try.func23, Try.ntmps23
          go_wp2_with (first
            | ((with_reducible refine wpList_alloc (halH.out) ?_ ?_); rfl)
            | ((with_reducible refine wpList_store (hstH.out) ?_ ?_ ?_ ?_); rfl; rfl; rfl)
            | ((with_reducible refine wpList_load (hldH.out) ?_ ?_ ?_); rfl; rfl)
            | ((with_reducible refine wpList_indexAddr (hixH.out) ?_ ?_ ?_ ?_); rfl; rfl; rfl))
          exact bodyPost_ret (results_pg_tmp (q := q) rfl pgTy _ rfl hb3H.out) rfl ⟨rfl, hFH.out⟩
end Go.Proofs
