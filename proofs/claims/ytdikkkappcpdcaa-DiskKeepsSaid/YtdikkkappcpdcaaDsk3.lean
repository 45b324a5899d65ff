/- The disk (layer 3): Lasts, Pages, Cached, Fuse, New. -/
import Derived.Test.YtdikkkappcpdcaaDsk2
import Derived.Carry
namespace Go.Proofs
open Go Go.RowKit Go.Nx
set_option maxRecDepth 100000
set_option linter.unusedVariables false

def DM.lasts (D : DM) (i : Int) : Pg := if i < 0 ∨ D.pages.length ≤ i then Pg.zero else D.page i

set_option maxHeartbeats 400000 in
theorem lasts_any (w : World) (d pb cb : Nat) (D : DM) (h : DiskAt w d pb cb D) (i : Int) :
    Calls Try.prog 14 #[ptr d, .int .i64 i] w fun e w' => e = .returned (pv (D.lasts i)) ∧ Fr [] w w' := by
  have h0 : DiskAt (w.alloc zbox) d pb cb D := h.keep (S := []) ((Fr.refl _ _).alloc _) (by simp) (by simp) (by simp)
  have hb1 : Blk (w.alloc zbox) w.heap.size 31 (cl Pg.zero) := Blk.new w _ _
  have hf1 : Fr [] w (w.alloc zbox) := (Fr.refl _ _).alloc _
  have hal1 := run_alloc_pg (P := Try.prog) pgTy w
  have hbu1 := run_build_pg (P := Try.prog) pgTy (w.alloc zbox)
  have hdl := h.dsk.lt
  have hpl := h.pgs.lt
  have c3 := h0.c3
  by_cases hi : i < 0
  · obtain ⟨w3, hst3, hb3, hf3, hs3⟩ := store_box pgTy hb1 Pg.zero
    have e : D.lasts i = Pg.zero := by simp [DM.lasts, hi]
    rw [e]
    have hF : Fr [] w w3 := hf1.trans hf3 (by simp) (by simp)
    have hFH := Lib.hid hF
    have hst3H := Lib.hid hst3
    have hb3H := Lib.hid hb3
    have hal1H := Lib.hid hal1
    have hbu1H := Lib.hid hbu1
    clear hF hst3 hb3 hal1 hbu1
    clear e h h0 hf3 hs3 hb1 hf1
    go_enter Try.func14, Try.ntmps14
    go_wp2_with (first
      | ((with_reducible refine wpList_alloc (hal1H.out) ?_ ?_); rfl)
      | ((with_reducible refine wpList_store (hst3H.out) ?_ ?_ ?_ ?_); rfl; rfl; rfl)
      | ((with_reducible refine wpList_build0 (hbu1H.out) ?_ ?_); rfl))
    exact bodyPost_ret (results_pg (q := Pg.zero) rfl pgTy _ rfl hb3H.out) rfl ⟨rfl, hFH.out⟩
  · by_cases hj : (D.pages.length : Int) ≤ i
    · obtain ⟨w3, hst3, hb3, hf3, hs3⟩ := store_box pgTy hb1 Pg.zero
      have e : D.lasts i = Pg.zero := by simp [DM.lasts, hj]
      rw [e]
      have hF : Fr [] w w3 := hf1.trans hf3 (by simp) (by simp)
      have hFH := Lib.hid hF
      have hst3H := Lib.hid hst3
      have hb3H := Lib.hid hb3
      have hal1H := Lib.hid hal1
      have hbu1H := Lib.hid hbu1
      clear hF hst3 hb3 hal1 hbu1
      clear e h h0 hf3 hs3 hb1 hf1
      go_enter Try.func14, Try.ntmps14
      go_wp2_with (first
        | ((with_reducible refine wpList_alloc (hal1H.out) ?_ ?_); rfl)
        | ((with_reducible refine wpList_store (hst3H.out) ?_ ?_ ?_ ?_); rfl; rfl; rfl)
        | ((with_reducible refine wpList_build0 (hbu1H.out) ?_ ?_); rfl))
      exact bodyPost_ret (results_pg (q := Pg.zero) rfl pgTy _ rfl hb3H.out) rfl ⟨rfl, hFH.out⟩
    · have hii : i.toNat < D.pages.length := by omega
      have hix := run_index_row (P := Try.prog) (S := 23) Try.underlying23 pgTy.size pb D.pages.length D.pages.length i (by omega) (by omega) (w.alloc zbox)
      have hld := run_load_pg (P := Try.prog) pgTy (h0.pgs.range i.toNat hii)
      obtain ⟨w3, hst3, hb3, hf3, hs3⟩ := store_box pgTy hb1 D.pages[i.toNat]
      have e : D.lasts i = D.pages[i.toNat] := by simp [DM.lasts, hi, hj, DM.page, List.getD, hii]
      rw [e]
      have hF : Fr [] w w3 := hf1.trans hf3 (by simp) (by simp)
      generalize hpe : D.pages[i.toNat] = p at *
      have hFH := Lib.hid hF
      have hst3H := Lib.hid hst3
      have hb3H := Lib.hid hb3
      have hal1H := Lib.hid hal1
      have hldH := Lib.hid hld
      have hixH := Lib.hid hix
      clear hF hst3 hb3 hal1 hld hix
      clear e h h0 hf3 hs3 hb1 hf1 hpe
      go_enter Try.func14, Try.ntmps14
      go_wp2_with (first
        | ((with_reducible refine wpList_alloc (hal1H.out) ?_ ?_); rfl)
        | ((with_reducible refine wpList_store (hst3H.out) ?_ ?_ ?_ ?_); rfl; rfl; rfl)
        | ((with_reducible refine wpList_load (hldH.out) ?_ ?_ ?_); rfl; rfl)
        | ((with_reducible refine wpList_indexAddr (hixH.out) ?_ ?_ ?_ ?_); rfl; rfl; rfl))
      exact bodyPost_ret (results_pg (q := p) rfl pgTy _ rfl hb3H.out) rfl ⟨rfl, hFH.out⟩

theorem pages_any (w : World) (d pb cb : Nat) (D : DM) (h : DiskAt w d pb cb D) :
    Calls Try.prog 27 #[ptr d] w fun e w' => e = .returned (.int .i64 D.pages.length) ∧ w = w' := by
  have c3 := h.c3
  clear h
  go_enter Try.func27, Try.ntmps27
  go_wp2
  go_ret
  exact ⟨rfl, rfl⟩

theorem cached_any (w : World) (d pb cb : Nat) (D : DM) (h : DiskAt w d pb cb D) :
    Calls Try.prog 15 #[ptr d] w fun e w' => e = .returned (.int .i64 D.cache.length) ∧ w = w' := by
  have c4 := h.c4
  have hl := run_len (P := Try.prog) h.map 29 _ _ 3 Try.underlying29
  have e : (pvs D.cache).length = D.cache.length := by simp [pvs]
  rw [e] at hl
  clear h e
  go_enter Try.func15, Try.ntmps15
  go_wp2
  go_ret
  exact ⟨rfl, rfl⟩

def DM.fuse (D : DM) (n : Int) : DM := { D with on := decide (0 ≤ n), left := if n < 0 then 0 else n }

theorem fuse_any (w : World) (d pb cb : Nat) (D : DM) (h : DiskAt w d pb cb D) (n : Int) (hn : n ≤ 9223372036854775807) :
    Calls Try.prog 18 #[ptr d, .int .i64 n] w fun e w' => e = .returned (.tuple #[]) ∧ DiskAt w' d pb cb (D.fuse n) ∧ Fr [d] w w' := by
  have key : ∀ (b : Bool) (m : Int), b = decide (0 ≤ n) → m = (if n < 0 then 0 else n) →
      DiskAt ((w.setCell ⟨d, 0, none⟩ (.bool b)).setCell ⟨d, 2, none⟩ (.int .i64 m)) d pb cb (D.fuse n) ∧ Fr [d] w ((w.setCell ⟨d, 0, none⟩ (.bool b)).setCell ⟨d, 2, none⟩ (.int .i64 m)) := by
    rintro b m rfl rfl
    have hF : Fr [d] w ((w.setCell ⟨d, 0, none⟩ (.bool (decide (0 ≤ n)))).setCell ⟨d, 2, none⟩ (.int .i64 (if n < 0 then 0 else n))) := ((Fr.refl [d] w).setCell _ _ (by simp)).setCell _ _ (by simp)
    exact ⟨{ h with
      dsk := (h.dsk.setCell_same 0 _).setCell_same 2 _
      pgs := h.pgs.keep hF (by simpa using h.ne1.symm)
      map := h.map.keep hF (by simpa using h.ne2.symm)
      left := by simp only [DM.fuse]; split <;> omega
      ok := fun _ _ => by simp only [DM.fuse]; split <;> omega }, hF⟩
  have c0 := h.c0
  have c2 := h.c2
  have f0 := h.dsk.frozen 0
  have f2 := h.dsk.frozen 2
  by_cases hn0 : n < 0
  · have hk := key (decide (0 ≤ n)) 0 rfl (by simp [hn0])
    have hkH := Lib.hid hk
    clear hk
    clear h key
    go_enter Try.func18, Try.ntmps18
    go_wp2
    go_end0
    exact ⟨rfl, hkH.out⟩
  · have hk := key true n (by simp; omega) (by simp [hn0])
    have hkH := Lib.hid hk
    clear hk
    clear h key
    go_enter Try.func18, Try.ntmps18
    go_wp2
    go_end0
    exact ⟨rfl, hkH.out⟩

theorem new_any (w : World) (n : Int) (h0 : 1 ≤ n) (h1 : n ≤ 512) :
    Calls Try.prog 12 #[.int .i64 n] w fun e w' => ∃ d pb cb, e = .returned (.tuple #[ptr d, .int .i64 0]) ∧ DiskAt w' d pb cb ⟨false, false, 0, List.replicate n.toNat Pg.zero, []⟩ ∧ Fr [] w w' ∧ w.heap.size ≤ d ∧ w.heap.size ≤ pb ∧ w.heap.size ≤ cb := by
  have hD : DiskAt (((w.alloc (.cells (flat (List.replicate n.toNat Pg.zero)).toArray 31)).alloc (.map #[] 0)).alloc (.cells #[.bool false, .bool false, .int .i64 0, .slice (some ⟨w.heap.size, 0, none⟩) n.toNat n.toNat, .map (some (w.heap.size + 1))] 92))
      (w.heap.size + 1 + 1) w.heap.size (w.heap.size + 1) ⟨false, false, 0, List.replicate n.toNat Pg.zero, []⟩ := by
    have e1 : (w.alloc (.cells (flat (List.replicate n.toNat Pg.zero)).toArray 31)).heap.size = w.heap.size + 1 := by simp
    have hm := MapIs.of_new (w.alloc (.cells (flat (List.replicate n.toNat Pg.zero)).toArray 31))
    rw [e1] at hm
    refine { dsk := ?_, pgs := ((Blk.new _ _ _).alloc _).alloc _, map := hm.keep (S := []) ((Fr.refl _ _).alloc _) (by simp), ne1 := by omega, ne2 := by omega, ne3 := by omega, keys := by simp, left := by simp, ok := by simp, len := by simp; omega }
    have := Blk.new ((w.alloc (.cells (flat (List.replicate n.toNat Pg.zero)).toArray 31)).alloc (.map #[] 0)) 92 [.bool false, .bool false, .int .i64 0, .slice (some ⟨w.heap.size, 0, none⟩) n.toNat n.toNat, .map (some (w.heap.size + 1))]
    simpa using this
  have hF : Fr [] w (((w.alloc (.cells (flat (List.replicate n.toNat Pg.zero)).toArray 31)).alloc (.map #[] 0)).alloc (.cells #[.bool false, .bool false, .int .i64 0, .slice (some ⟨w.heap.size, 0, none⟩) n.toNat n.toNat, .map (some (w.heap.size + 1))] 92)) :=
    (((Fr.refl _ _).alloc _).alloc _).alloc _
  have hms := run_makeSlice_pg (P := Try.prog) pgTy Try.underlying23 n (by omega) (by omega) w
  have hmm := @run_makeMap Try.prog
  have hmsH := Lib.hid hms
  have hDH := Lib.hid hD
  have hFH := Lib.hid hF
  clear hms hD hF
  go_enter Try.func12, Try.ntmps12
  go_wp2_with (first
    | ((with_reducible refine wpList_makeSlice (hmsH.out) ?_ ?_ ?_ ?_); rfl; rfl; rfl))
  go_ret2
  exact ⟨_, _, _, rfl, hDH.out, hFH.out, by omega, by omega, by omega⟩
theorem new_bad (w : World) (n : Int) (h : n < 1 ∨ 512 < n) :
    Calls Try.prog 12 #[.int .i64 n] w fun e w' => e = .returned (.tuple #[.pointer none, .int .i64 22]) ∧ w = w' := by
  by_cases h0 : n < 1
  · clear h
    go_enter Try.func12, Try.ntmps12
    go_wp2
    go_ret2
    exact ⟨rfl, rfl⟩
  · have h1 : 512 < n := by omega
    clear h
    go_enter Try.func12, Try.ntmps12
    go_wp2
    go_ret2
    exact ⟨rfl, rfl⟩
end Go.Proofs
