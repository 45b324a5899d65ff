/- The disk (layer 3) that isn't there. -/
import Derived.Test.YtdikkkappcpdcaaDsk3
namespace Go.Proofs
open Go Go.RowKit Go.Nx
set_option maxRecDepth 100000
set_option linter.unusedVariables false

theorem down_nil (w : World) : Calls Try.prog 19 #[.pointer none] w fun e w' => e = .returned (.bool true) ∧ w = w' := by
  go_enter Try.func19, Try.ntmps19
  go_wp2
  go_ret
  exact ⟨rfl, rfl⟩
theorem has_nil (w : World) (i : Int) : Calls Try.prog 48 #[.pointer none, .int .i64 i] w fun e w' => e = .returned (.int .i64 5) ∧ w = w' := by
  go_enter Try.func48, Try.ntmps48
  go_wp2_with (first
    | (go_at_call 19; refine (down_nil w).mono ?_; rintro e w' ⟨rfl, rfl⟩))
  go_ret
  exact ⟨rfl, rfl⟩
theorem fuse_nil (w : World) (n : Int) : Calls Try.prog 18 #[.pointer none, .int .i64 n] w fun e w' => e = .returned (.tuple #[]) ∧ w = w' := by
  go_enter Try.func18, Try.ntmps18
  go_wp2
  go_end0
  exact ⟨rfl, rfl⟩
theorem crash_nil (w : World) (v : Value) : Calls Try.prog 20 #[.pointer none, v] w fun e w' => e = .returned (.tuple #[]) ∧ w = w' := by
  go_enter Try.func20, Try.ntmps20
  go_wp2
  refine bodyPost_ret (results_none rfl _ _ _) rfl ?_
  exact ⟨rfl, rfl⟩
theorem flush_nil (w : World) : Calls Try.prog 16 #[.pointer none] w fun e w' => e = .returned (.int .i64 5) ∧ w = w' := by
  go_enter Try.func16, Try.ntmps16
  go_wp2
  go_ret
  exact ⟨rfl, rfl⟩
theorem pages_nil (w : World) : Calls Try.prog 27 #[.pointer none] w fun e w' => e = .returned (.int .i64 0) ∧ w = w' := by
  go_enter Try.func27, Try.ntmps27
  go_wp2
  go_ret
  exact ⟨rfl, rfl⟩
theorem cached_nil (w : World) : Calls Try.prog 15 #[.pointer none] w fun e w' => e = .returned (.int .i64 0) ∧ w = w' := by
  go_enter Try.func15, Try.ntmps15
  go_wp2
  go_ret
  exact ⟨rfl, rfl⟩
theorem write_nil (w : World) (i : Int) (p : Pg) : Calls Try.prog 13 #[.pointer none, .int .i64 i, pv p] w fun e w' => e = .returned (.int .i64 5) ∧ Fr [] w w' := by
  have hF : Fr [] w (w.alloc (.cells (cl p).toArray 31)) := (Fr.refl _ _).alloc _
  have hh := has_nil (w.alloc (.cells (cl p).toArray 31)) i
  have hFH := Lib.hid hF
  have hhH := Lib.hid hh
  clear hF hh
  go_enter Try.func13, Try.ntmps13
  go_wp2_with (first
    | (go_at_call 48; refine (hhH.out).mono ?_; rintro e w' ⟨rfl, rfl⟩))
  go_ret
  exact ⟨rfl, hFH.out⟩
theorem read_nil (w : World) (i : Int) : Calls Try.prog 17 #[.pointer none, .int .i64 i] w fun e w' => e = .returned (.tuple #[pv Pg.zero, .int .i64 5]) ∧ Fr [] w w' := by
  have hb1 : Blk (w.alloc zbox) w.heap.size 31 (cl Pg.zero) := Blk.new w _ _
  have hf1 : Fr [] w (w.alloc zbox) := (Fr.refl _ _).alloc _
  have hal1 := run_alloc_pg (P := Try.prog) pgTy w
  have hbu1 := run_build_pg (P := Try.prog) pgTy (w.alloc zbox)
  have hhas := has_nil (w.alloc zbox) i
  obtain ⟨w3, hst3, hb3, hf3, hs3⟩ := store_box pgTy hb1 Pg.zero
  have hF : Fr [] w w3 := hf1.trans hf3 (by simp) (by simp)
  have hFH := Lib.hid hF
  have hst3H := Lib.hid hst3
  have hb3H := Lib.hid hb3
  have hal1H := Lib.hid hal1
  have hhasH := Lib.hid hhas
  have hbu1H := Lib.hid hbu1
  clear hF hst3 hb3 hal1 hhas hbu1
  clear hf3 hs3 hb1 hf1
  go_enter Try.func17, Try.ntmps17
  go_wp2_with (first
    | ((with_reducible refine wpList_alloc (hal1H.out) ?_ ?_); rfl)
    | (go_at_call 48; refine (hhasH.out).mono ?_; rintro e w' ⟨rfl, rfl⟩)
    | ((with_reducible refine wpList_store (hst3H.out) ?_ ?_ ?_ ?_); rfl; rfl; rfl)
    | ((with_reducible refine wpList_build0 (hbu1H.out) ?_ ?_); rfl))
  exact bodyPost_ret (results_pg_tmp (q := Pg.zero) rfl pgTy _ rfl hb3H.out) rfl ⟨rfl, hFH.out⟩
theorem lasts_nil (w : World) (i : Int) : Calls Try.prog 14 #[.pointer none, .int .i64 i] w fun e w' => e = .returned (pv Pg.zero) ∧ Fr [] w w' := by
  have hb1 : Blk (w.alloc zbox) w.heap.size 31 (cl Pg.zero) := Blk.new w _ _
  have hf1 : Fr [] w (w.alloc zbox) := (Fr.refl _ _).alloc _
  have hal1 := run_alloc_pg (P := Try.prog) pgTy w
  have hbu1 := run_build_pg (P := Try.prog) pgTy (w.alloc zbox)
  obtain ⟨w3, hst3, hb3, hf3, hs3⟩ := store_box pgTy hb1 Pg.zero
  have hF : Fr [] w w3 := hf1.trans hf3 (by simp) (by simp)
  have hFH := Lib.hid hF
  have hst3H := Lib.hid hst3
  have hb3H := Lib.hid hb3
  have hal1H := Lib.hid hal1
  have hbu1H := Lib.hid hbu1
  clear hF hst3 hb3 hal1 hbu1
  clear hf3 hs3 hb1 hf1
  go_enter Try.func14, Try.ntmps14
  go_wp2_with (first
    | ((with_reducible refine wpList_alloc (hal1H.out) ?_ ?_); rfl)
    | ((with_reducible refine wpList_store (hst3H.out) ?_ ?_ ?_ ?_); rfl; rfl; rfl)
    | ((with_reducible refine wpList_build0 (hbu1H.out) ?_ ?_); rfl))
  exact bodyPost_ret (results_pg (q := Pg.zero) rfl pgTy _ rfl hb3H.out) rfl ⟨rfl, hFH.out⟩
end Go.Proofs
