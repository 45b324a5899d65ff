/- The statements of layer 3: the helper full, the example awake. -/
import Derived.Test.YtdikkkappcpdcaaDsk5
namespace Go.Proofs
open Go Go.RowKit Go.Nx
set_option maxRecDepth 100000
set_option linter.unusedVariables false

def fullP (b : UInt8) : Pg := Vector.replicate 64 b
def part (b : UInt8) (n : Nat) : List Value := List.replicate n (bv b) ++ List.replicate (64 - n) (bv 0)
theorem part_zero (b : UInt8) : part b 0 = cl Pg.zero := by simp [part, cl_zero, bv]
theorem part_all (b : UInt8) : part b 64 = cl (fullP b) := by simp [part, cl, fullP]
theorem part_set (b : UInt8) (n : Nat) (h : n < 64) : (part b n).set n (bv b) = part b (n + 1) := by
  unfold part
  rw [List.set_append_right _ _ (by simp), List.length_replicate, Nat.sub_self, show 64 - n = (64 - (n + 1)) + 1 by omega, List.replicate_succ, List.set_cons_zero, List.replicate_succ', List.append_assoc]
  rfl

def FullInv (w : World) (b2 b3 : Nat) (c : UInt8) (k : Nat) (i : Value) (wr : World) : Prop :=
  ∃ n : Nat, i = .int .i64 n ∧ k + n = 64 ∧ Blk wr b3 31 (part c n) ∧ Blk wr b2 31 (cl Pg.zero) ∧ Fr [] w wr

set_option maxHeartbeats 400000 in
theorem full_any (w : World) (c : UInt8) (v : Value) (hv : v = bv c) :
    Calls Try.prog 47 #[v] w fun e w' => e = .returned (pv (fullP c)) ∧ Fr [] w w' := by
  subst hv
  have hal1 := run_alloc_pg (P := Try.prog) pgTy w
  have hal2 := run_alloc_pg (P := Try.prog) pgTy (w.alloc zbox)
  have hb2 : Blk ((w.alloc zbox).alloc zbox) (w.alloc zbox).heap.size 31 (cl Pg.zero) := Blk.new _ _ _
  have hb12 : Blk ((w.alloc zbox).alloc zbox) w.heap.size 31 (cl Pg.zero) := (Blk.new _ _ _).alloc _
  have hF : Fr [] w ((w.alloc zbox).alloc zbox) := ((Fr.refl _ _).alloc _).alloc _
  have e1 : (w.alloc zbox).heap.size = w.heap.size + 1 := by simp
  rw [e1] at hb2 hal2
  clear e1
  unfold bv
  have hal1H := Lib.hid hal1
  have hal2H := Lib.hid hal2
  have hb2H := Lib.hid hb2
  have hb12H := Lib.hid hb12
  have hFH := Lib.hid hF
  clear hal1 hal2 hb2 hb12 hF
  go_enter Try.func47, Try.ntmps47
  go_wp2_with (first
    | ((with_reducible refine wpList_alloc (hal1H.out) ?_ ?_); rfl)
    | ((with_reducible refine wpList_alloc (hal2H.out) ?_ ?_); rfl))
  go_loopg [5] 64 (fun k i wr => FullInv w w.heap.size (w.heap.size + 1) c k i wr)
  case atStart => exact ⟨0, rfl, rfl, by rw [part_zero]; exact hb2H.out, hb12H.out, hFH.out⟩
  case round =>
    obtain ⟨n, rfl, hk, hp3, hp2, hfr⟩ := hrel
    by_cases hlt : n < 64
    · have hc : wr.cell? ⟨w.heap.size + 1, n, none⟩ = some ((part c n)[n]'(by simp [part]; omega)) := by rw [hp3.cell]; exact List.getElem?_eq_getElem _
      have hz := hp3.frozen n
      generalize (part c n)[n]'(by simp [part]; omega) = old at hc
      have hfin : FullInv w w.heap.size (w.heap.size + 1) c (gk - 1) (.int .i64 ((n : Int) + 1)) (wr.setCell ⟨w.heap.size + 1, n, none⟩ (.int .u8 c.toNat)) ∧ gk - 1 < gk := by
        refine ⟨⟨n + 1, rfl, by omega, ?_, hp2.setCell_other (by simp) _, hfr.setCell _ _ (fun h => absurd h (by simp))⟩, by omega⟩
        rw [← part_set c n hlt]
        exact hp3.setCell_same n _
      have hin : (n : Int) < 64 := by omega
      have hfinH := Lib.hid hfin
      clear hfin
      clear hp3 hp2 hfr
      go_wp2
      go_roundg (gk - 1)
      case measure => exact hfinH.out.2
      case rel => exact hfinH.out.1
    · have hn : n = 64 := by omega
      subst hn
      rw [part_all] at hp3
      have hld := run_load_pg (P := Try.prog) pgTy hp3.range1
      obtain ⟨w3, hst, hb3, hf3, hs3⟩ := store_box pgTy hp2 (fullP c)
      have hG : Fr [] w w3 := hfr.trans hf3 (by simp) (by simp)
      have hin : ¬ (((64 : Nat) : Int) < 64) := by omega
      have hldH := Lib.hid hld
      have hstH := Lib.hid hst
      have hb3H := Lib.hid hb3
      have hGH := Lib.hid hG
      clear hld hst hb3 hG
      clear hp3 hp2 hfr hf3 hs3 hin
      go_wp2_with (first
        | ((with_reducible refine wpList_load (hldH.out) ?_ ?_ ?_); rfl; rfl)
        | ((with_reducible refine wpList_store (hstH.out) ?_ ?_ ?_ ?_); rfl; rfl; rfl))
      exact bodyPost_ret (results_pg (q := fullP c) rfl pgTy _ rfl hb3H.out) rfl ⟨rfl, hGH.out⟩

theorem write_to {w : World} {d pb cb : Nat} {D D' : DM} {r : Int} (h : DiskAt w d pb cb D) {i : Int} {p : Pg} (e : D.write i p = (r, D')) :
    Calls Try.prog 13 #[ptr d, .int .i64 i, pv p] w fun e w' => e = .returned (.int .i64 r) ∧ DiskAt w' d pb cb D' ∧ Fr [d, cb] w w' := by
  have := write_any w d pb cb D h i p
  rwa [e] at this
theorem flush_to {w : World} {d pb cb : Nat} {D D' : DM} {r : Int} (h : DiskAt w d pb cb D) (e : D.flush = (r, D')) :
    Calls Try.prog 16 #[ptr d] w fun e w' => e = .returned (.int .i64 r) ∧ DiskAt w' d pb cb D' ∧ Fr [d, pb, cb] w w' := by
  have := flush_any w d pb cb D h
  rwa [e] at this
theorem read_to {w : World} {d pb cb : Nat} {D : DM} {r : Int} {p : Pg} (h : DiskAt w d pb cb D) {i : Int} (e : D.read i = (p, r)) :
    Calls Try.prog 17 #[ptr d, .int .i64 i] w fun e w' => e = .returned (.tuple #[pv p, .int .i64 r]) ∧ Fr [] w w' := by
  have := read_any w d pb cb D h i
  rwa [e] at this

def aw0 : DM := ⟨false, false, 0, [Pg.zero, Pg.zero], []⟩
def aw1 : DM := ⟨false, false, 0, [Pg.zero, Pg.zero], [(0, fullP 1)]⟩
def aw2 : DM := ⟨false, false, 0, [fullP 1, Pg.zero], []⟩
def aw3 : DM := ⟨false, false, 0, [fullP 1, Pg.zero], [(0, fullP 2)]⟩
def aw4 : DM := ⟨false, false, 0, [Pg.mix (fullP 2) (fullP 1) 3, Pg.zero], []⟩
theorem aw01 : aw0.write 0 (fullP 1) = (0, aw1) := rfl
theorem aw12 : aw1.flush = (0, aw2) := rfl
theorem aw23 : aw2.write 0 (fullP 2) = (0, aw3) := rfl
theorem aw34 : aw3.crash [3] = aw4 := by
  have : sortK (aw3.cache.map (·.1)) = [0] := by simp [sortK, aw3]
  unfold DM.crash; rw [this]; rfl
theorem aw4r : aw4.read 0 = (Pg.mix (fullP 2) (fullP 1) 3, 0) := rfl

theorem bytes_one (w : World) (t : TypeId) (c : UInt8) : BytesAt (w.alloc (.cells #[.int .u8 c.toNat] t)) (.slice (some ⟨w.heap.size, 0, none⟩) 1 1) [c] :=
  ⟨_, 1, rfl, fun _ => ⟨w.heap.size, 0, rfl, by simp, fun j hj => by
    have hj0 : j = 0 := by simpa using hj
    subst hj0
    exact (Blk.new w t [.int .u8 c.toNat]).cell 0⟩⟩

set_option maxHeartbeats 800000 in
theorem awake3 (w : World) : Calls Try.prog 11 #[] w fun e w' => e = .returned (.bool true) ∧ Below w.heap.size w w' := by
  go_enter Try.func11, Try.ntmps11
  go_wp2_with fail
  refine (new_any w 2 (by omega) (by omega)).mono ?_
  rintro e w' ⟨d, pb, cb, rfl, hD, hF, hd, hp, hc⟩
  have hB := hF.below (B := w.heap.size) (Nat.le_refl _) (by simp)
  have hs := hF.size
  clear hF
  change DiskAt w' d pb cb aw0 at hD
  go_wp2_with fail
  refine (full_any _ 1 _ rfl).mono ?_
  rintro e w' ⟨rfl, hF⟩
  have hB1 := hB.trans (hF.below (B := w.heap.size) hs (by simp))
  have hD1 := hD.keep hF (by simp) (by simp) (by simp)
  clear hB hD hF hs
  go_wp2_with fail
  refine (write_to hD1 aw01).mono ?_
  rintro e w' ⟨rfl, hD, hF⟩
  have hB := hB1.trans (hF.below (B := w.heap.size) hB1.size (by simp; omega))
  clear hB1 hD1 hF
  go_wp2_with fail
  refine (flush_to hD aw12).mono ?_
  rintro e w' ⟨rfl, hD1, hF⟩
  have hB1 := hB.trans (hF.below (B := w.heap.size) hB.size (by simp; omega))
  clear hB hD hF
  go_wp2_with fail
  refine (full_any _ 2 _ rfl).mono ?_
  rintro e w' ⟨rfl, hF⟩
  have hB := hB1.trans (hF.below (B := w.heap.size) hB1.size (by simp))
  have hD := hD1.keep hF (by simp) (by simp) (by simp)
  clear hB1 hD1 hF
  go_wp2_with fail
  refine (write_to hD aw23).mono ?_
  rintro e w' ⟨rfl, hD1, hF⟩
  have hB1 := hB.trans (hF.below (B := w.heap.size) hB.size (by simp; omega))
  clear hB hD hF
  have hD := hD1.keep (S := []) ((Fr.refl _ _).alloc (.cells #[.int .u8 3] 5)) (by simp) (by simp) (by simp)
  have hB := hB1.trans ((Below.refl _ _).alloc hB1.size (.cells #[.int .u8 3] 5))
  have hby := bytes_one w' 5 3
  have hcr := crash_any _ d pb cb aw3 hD _ _ hby (fun b off cap h _ => by
    have h1 := hD1.dsk.lt
    have h2 := hD1.pgs.lt
    have h3 := hD1.map.lt
    injection h with h _ _
    injection h with h
    injection h with h
    omega)
  rw [aw34] at hcr
  clear hby hD1 hB1
  go_wp2_with fail
  refine hcr.mono ?_
  clear hcr
  rintro e w' ⟨rfl, hD1, hF⟩
  have hB1 := hB.trans (hF.below (B := w.heap.size) hB.size (by simp; omega))
  clear hB hD hF
  go_wp2_with fail
  refine (read_to hD1 aw4r).mono ?_
  rintro e w' ⟨rfl, hF⟩
  have hB := hB1.trans (hF.below (B := w.heap.size) hB1.size (by simp))
  clear hB1 hD1 hF
  have hal := run_alloc_pg (P := Try.prog) pgTy w'
  obtain ⟨w2, hst, hb2, hf2, hs2⟩ := store_box pgTy (Blk.new w' 31 (cl Pg.zero)) (Pg.mix (fullP 2) (fullP 1) 3)
  have hc2 : w2.cell? ⟨w'.heap.size, 2, none⟩ = some (.int .u8 2) := hb2.cell 2
  have hc3 : w2.cell? ⟨w'.heap.size, 3, none⟩ = some (.int .u8 1) := hb2.cell 3
  have hG := hB.trans ((((Fr.refl [] w').alloc zbox).trans hf2 (S := []) (by simp) (by simp)).below (B := w.heap.size) hB.size (by simp))
  have halH := Lib.hid hal
  have hstH := Lib.hid hst
  have hGH := Lib.hid hG
  clear hal hst hG
  clear hB hb2 hf2 hs2
  go_wp2_with (first
    | ((with_reducible refine wpList_alloc (halH.out) ?_ ?_); rfl)
    | ((with_reducible refine wpList_store (hstH.out) ?_ ?_ ?_ ?_); rfl; rfl; rfl))
  go_ret
  exact ⟨rfl, hGH.out⟩
end Go.Proofs
