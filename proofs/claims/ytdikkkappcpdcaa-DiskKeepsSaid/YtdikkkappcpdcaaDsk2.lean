/- The disk (layer 3): reading, the counts, a new disk. -/
import Derived.Test.YtdikkkappcpdcaaDsk
namespace Go.Proofs
open Go Go.RowKit Go.Nx
set_option maxRecDepth 100000
set_option linter.unusedVariables false

theorem get_pvs (l : List (Int × Pg)) (i : Int) : mget (pvs l) i = (l.lookup i).map pv := by
  unfold mget
  generalize 0 = j
  induction l generalizing j with
  | nil => rfl
  | cons x l ih =>
    obtain ⟨k, p⟩ := x
    unfold pvs seek
    simp only [List.map_cons, List.lookup]
    by_cases e : k = i
    · subst e; simp
    · have e' : (i == k) = false := by simp; exact fun h => e h.symm
      rw [if_neg e, e']
      exact ih (j + 1)

theorem pvs_keys (l : List (Int × Pg)) : (pvs l).map (·.1) = l.map (·.1) := by simp [pvs]

def DM.page (D : DM) (i : Int) : Pg := D.pages.getD i.toNat Pg.zero

def DM.read (D : DM) (i : Int) : Pg × Int := if D.has i ≠ 0 then (Pg.zero, D.has i) else ((D.cache.lookup i).getD (D.page i), 0)

abbrev zbox : Obj := .cells (cl Pg.zero).toArray 31

set_option maxHeartbeats 400000 in
theorem read_any (w : World) (d pb cb : Nat) (D : DM) (h : DiskAt w d pb cb D) (i : Int) :
    Calls Try.prog 17 #[ptr d, .int .i64 i] w fun e w' => e = .returned (.tuple #[pv (D.read i).1, .int .i64 (D.read i).2]) ∧ Fr [] w w' := by
  have hal := run_alloc_pg (P := Try.prog) pgTy
  have hbu := run_build_pg (P := Try.prog) pgTy w
  have h0 : DiskAt (w.alloc zbox) d pb cb D := h.keep (S := []) ((Fr.refl _ _).alloc _) (by simp) (by simp) (by simp)
  have hb1 : Blk (w.alloc zbox) w.heap.size 31 (cl Pg.zero) := Blk.new w _ _
  have hf1 : Fr [] w (w.alloc zbox) := (Fr.refl _ _).alloc _
  have hal1 := hal w
  have hal2 := hal (w.alloc zbox)
  have hbu1 := run_build_pg (P := Try.prog) pgTy (w.alloc zbox)
  have hb2 : Blk ((w.alloc zbox).alloc zbox) (w.alloc zbox).heap.size 31 (cl Pg.zero) := Blk.new _ _ _
  have hf2 : Fr [] w ((w.alloc zbox).alloc zbox) := hf1.alloc _
  have hb12 : Blk ((w.alloc zbox).alloc zbox) w.heap.size 31 (cl Pg.zero) := hb1.alloc _
  have e1 : (w.alloc zbox).heap.size = w.heap.size + 1 := by simp
  rw [e1] at hb2 hal2
  clear e1 hal hbu
  have hdl := h.dsk.lt
  have hcl := h.map.lt
  have hpl := h.pgs.lt
  have c3 := h0.c3
  have c4 := h0.c4
  have hhas := has_any _ _ _ _ D h0 i
  by_cases hh : D.has i = 0
  · have hin := DM.has_zero hh
    rw [hh] at hhas
    have hlk := run_lookup (P := Try.prog) h0.map 29 _ _ Try.underlying29 Try.underlying3 _ pgTy.zero i true
    rw [get_pvs] at hlk
    cases hL : D.cache.lookup i with
    | some p =>
      obtain ⟨w3, hst3, hb3, hf3, hs3⟩ := store_box pgTy hb2 p
      have hld3 := run_load_pg (P := Try.prog) pgTy hb3.range1
      obtain ⟨w4, hst4, hb4, hf4, hs4⟩ := store_box pgTy (hb12.keep hf3 (by simp)) p
      rw [hL] at hlk
      simp only [if_true, Option.map_some, Option.getD_some, Option.isSome_some] at hlk
      have e : D.read i = (p, 0) := by simp [DM.read, hh, hL]
      rw [e]
      have hF : Fr [] w w4 := (hf2.trans hf3 (S := []) (by simp) (by simp)).trans hf4 (by simp) (by simp)
      have hFH := Lib.hid hF
      have hlkH := Lib.hid hlk
      have hst3H := Lib.hid hst3
      have hst4H := Lib.hid hst4
      have hld3H := Lib.hid hld3
      have hb4H := Lib.hid hb4
      have hal1H := Lib.hid hal1
      have hal2H := Lib.hid hal2
      have hhasH := Lib.hid hhas
      clear hF hlk hst3 hst4 hld3 hb4 hal1 hal2 hhas
      clear e hL hin h h0 hb3 hf3 hf4 hs3 hs4 hb12 hb2 hf2 hb1 hf1 hbu1 hh
      go_enter Try.func17, Try.ntmps17
      go_wp2_with (first
        | ((with_reducible refine wpList_alloc (hal2H.out) ?_ ?_); rfl)
        | ((with_reducible refine wpList_alloc (hal1H.out) ?_ ?_); rfl)
        | (go_at_call 48; refine (hhasH.out).mono ?_; rintro e w' ⟨rfl, rfl⟩)
        | ((with_reducible refine wpList_lookup (hlkH.out) ?_ ?_ ?_ ?_); rfl; rfl; rfl)
        | ((with_reducible refine wpList_store (hst3H.out) ?_ ?_ ?_ ?_); rfl; rfl; rfl)
        | ((with_reducible refine wpList_store (hst4H.out) ?_ ?_ ?_ ?_); rfl; rfl; rfl)
        | ((with_reducible refine wpList_load (hld3H.out) ?_ ?_ ?_); rfl; rfl))
      exact bodyPost_ret (results_pg_tmp (q := p) rfl pgTy _ rfl hb4H.out) rfl ⟨rfl, hFH.out⟩
    | none =>
      have hix := run_index_row (P := Try.prog) (S := 23) Try.underlying23 pgTy.size pb D.pages.length D.pages.length i hin.2.1 hin.2.2
      have hii : i.toNat < D.pages.length := by omega
      obtain ⟨w3, hst3, hb3, hf3, hs3⟩ := store_box pgTy hb2 Pg.zero
      have hp3 := (h0.pgs.alloc zbox).keep hf3 (by simp; omega)
      have hld3 := run_load_pg (P := Try.prog) pgTy (hp3.range i.toNat hii)
      obtain ⟨w4, hst4, hb4, hf4, hs4⟩ := store_box pgTy (hb12.keep hf3 (by simp)) D.pages[i.toNat]
      have hix3 := hix w3
      rw [hL] at hlk
      simp only [if_true, Option.map_none, Option.getD_none, Option.isSome_none] at hlk
      have e : D.read i = (D.pages[i.toNat], 0) := by simp [DM.read, hh, hL, DM.page, List.getD, hii]
      rw [e]
      have c33 : w3.cell? ⟨d, 3, none⟩ = _ := (((h0.dsk.alloc zbox).keep hf3 (by simp; omega)).cell 3)
      have hF : Fr [] w w4 := (hf2.trans hf3 (S := []) (by simp) (by simp)).trans hf4 (by simp) (by simp)
      generalize hpe : D.pages[i.toNat] = p at *
      have hFH := Lib.hid hF
      have hlkH := Lib.hid hlk
      have hst3H := Lib.hid hst3
      have hst4H := Lib.hid hst4
      have hld3H := Lib.hid hld3
      have hb4H := Lib.hid hb4
      have hal1H := Lib.hid hal1
      have hal2H := Lib.hid hal2
      have hhasH := Lib.hid hhas
      have hix3H := Lib.hid hix3
      clear hF hlk hst3 hst4 hld3 hb4 hal1 hal2 hhas hix3
      clear e hL hin h h0 hb3 hf3 hf4 hs3 hs4 hb12 hb2 hf2 hb1 hf1 hbu1 hh hp3 hix hpe
      go_enter Try.func17, Try.ntmps17
      go_wp2_with (first
        | ((with_reducible refine wpList_alloc (hal2H.out) ?_ ?_); rfl)
        | ((with_reducible refine wpList_alloc (hal1H.out) ?_ ?_); rfl)
        | (go_at_call 48; refine (hhasH.out).mono ?_; rintro e w' ⟨rfl, rfl⟩)
        | ((with_reducible refine wpList_lookup (hlkH.out) ?_ ?_ ?_ ?_); rfl; rfl; rfl)
        | ((with_reducible refine wpList_store (hst3H.out) ?_ ?_ ?_ ?_); rfl; rfl; rfl)
        | ((with_reducible refine wpList_store (hst4H.out) ?_ ?_ ?_ ?_); rfl; rfl; rfl)
        | ((with_reducible refine wpList_load (hld3H.out) ?_ ?_ ?_); rfl; rfl)
        | ((with_reducible refine wpList_indexAddr (hix3H.out) ?_ ?_ ?_ ?_); rfl; rfl; rfl))
      exact bodyPost_ret (results_pg_tmp (q := p) rfl pgTy _ rfl hb4H.out) rfl ⟨rfl, hFH.out⟩
  · obtain ⟨w3, hst3, hb3, hf3, hs3⟩ := store_box pgTy hb1 Pg.zero
    have hne : (D.has i != 0) = true := by simpa using hh
    have e : D.read i = (Pg.zero, D.has i) := by simp [DM.read, hh]
    rw [e]
    have hF : Fr [] w w3 := hf1.trans hf3 (by simp) (by simp)
    have hFH := Lib.hid hF
    have hst3H := Lib.hid hst3
    have hb3H := Lib.hid hb3
    have hal1H := Lib.hid hal1
    have hhasH := Lib.hid hhas
    have hbu1H := Lib.hid hbu1
    clear hF hst3 hb3 hal1 hhas hbu1
    clear e h h0 hf3 hs3 hb12 hb2 hf2 hb1 hf1 hh hal2
    go_enter Try.func17, Try.ntmps17
    go_wp2_with (first
      | ((with_reducible refine wpList_alloc (hal1H.out) ?_ ?_); rfl)
      | (go_at_call 48; refine (hhasH.out).mono ?_; rintro e w' ⟨rfl, rfl⟩)
      | ((with_reducible refine wpList_store (hst3H.out) ?_ ?_ ?_ ?_); rfl; rfl; rfl)
      | ((with_reducible refine wpList_build0 (hbu1H.out) ?_ ?_); rfl))
    exact bodyPost_ret (results_pg_tmp (q := Pg.zero) rfl pgTy _ rfl hb3H.out) rfl ⟨rfl, hFH.out⟩
end Go.Proofs
