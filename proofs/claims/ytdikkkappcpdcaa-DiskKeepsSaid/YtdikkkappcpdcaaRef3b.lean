/- The document's disk (narthexref03): writing, flushing, counting, a new one. -/
import Derived.Test.YtdikkkappcpdcaaRef3
import Derived.Test.YtdikkkappcpdcaaFlag
import Derived.Deep.LoopGhost
import Derived.Maps.RangeWalk
namespace Go.Proofs
open Go Go.RowKit Go.Nx
set_option maxRecDepth 100000
set_option linter.unusedVariables false

def RM.write (R : RM) (i : Int) (p : Pg) : Int × RM :=
  if R.has i ≠ 0 then (R.has i, R) else if R.step.1 then (0, { R.step.2 with new := R.step.2.new.set i.toNat p, on := R.step.2.on.set i.toNat true }) else (5, R.step.2)

theorem RM.step_last (R : RM) : R.step.2.last = R.last := by unfold RM.step; split <;> rfl
theorem RM.step_new (R : RM) : R.step.2.new = R.new := by unfold RM.step; split <;> rfl
theorem RM.step_on (R : RM) : R.step.2.on = R.on := by unfold RM.step; split <;> rfl

set_option maxHeartbeats 800000 in
theorem rwrite_any (w : World) (r lb nb ob : Nat) (R : RM) (h : RefAt w r lb nb ob R) (i : Int) (p : Pg) :
    Calls Try.prog 22 #[ptr r, .int .i64 i, pv p] w fun e w' => e = .returned (.int .i64 (R.write i p).1) ∧ RefAt w' r lb nb ob (R.write i p).2 ∧ Fr [r, nb, ob] w w' := by
  have hf1 : Fr [] w (w.alloc (.cells (cl p).toArray 31)) := (Fr.refl _ _).alloc _
  have h0 : RefAt (w.alloc (.cells (cl p).toArray 31)) r lb nb ob R := h.keep hf1 (by simp) (by simp) (by simp) (by simp)
  have hpg := Blk.new w 31 (cl p)
  have c0 : (w.alloc (.cells (cl p).toArray 31)).cell? ⟨r, 0, none⟩ = _ := h0.rcd.cell 0
  have c4 : (w.alloc (.cells (cl p).toArray 31)).cell? ⟨r, 4, none⟩ = _ := h0.rcd.cell 4
  simp only [List.getElem?_cons_zero, List.getElem?_cons_succ] at c0 c4
  have hrl := h.rcd.lt
  have hll := h.l.lt
  have hnl := h.n.lt
  have hol := h.o.lt
  cases hd : R.down with
  | true =>
    have e : R.write i p = (5, R) := by simp [RM.write, RM.has, hd]
    rw [hd] at c4
    rw [e]
    have h0H := Lib.hid h0
    have hf1H := Lib.hid hf1
    clear h0 hf1
    clear e h hpg
    go_enter Try.func22, Try.ntmps22
    go_wp2
    go_ret
    exact ⟨rfl, h0H.out, hf1H.out.mono (by simp)⟩
  | false =>
    rw [hd] at c4
    by_cases h1 : i < 0
    · have e : R.write i p = (22, R) := by simp [RM.write, RM.has, hd, h1]
      rw [e]
      have h0H := Lib.hid h0
      have hf1H := Lib.hid hf1
      clear h0 hf1
      clear e h hpg
      go_enter Try.func22, Try.ntmps22
      go_wp2
      go_ret
      exact ⟨rfl, h0H.out, hf1H.out.mono (by simp)⟩
    · by_cases h2 : (R.last.length : Int) ≤ i
      · have e : R.write i p = (22, R) := by simp [RM.write, RM.has, hd, h2]
        rw [e]
        have h0H := Lib.hid h0
        have hf1H := Lib.hid hf1
        clear h0 hf1
        clear e h hpg
        go_enter Try.func22, Try.ntmps22
        go_wp2
        go_ret
        exact ⟨rfl, h0H.out, hf1H.out.mono (by simp)⟩
      · have hh : R.has i = 0 := by simp [RM.has, hd, h1, h2]
        have hst := rstep_any _ r lb nb ob R h0
        have hi0 : 0 ≤ i := by omega
        have hi1 : i < (R.last.length : Int) := by omega
        cases hS : R.step.1 with
        | false =>
          have e : R.write i p = (5, R.step.2) := by simp [RM.write, hh, hS]
          rw [e]
          rw [hS] at hst
          have hstH := Lib.hid hst
          have hf1H := Lib.hid hf1
          clear hst hf1
          clear e h h0 hpg hS hh hd
          go_enter Try.func22, Try.ntmps22
          go_wp2_with (first
            | (go_at_call 52; refine (hstH.out).mono ?_; rintro e w' ⟨rfl, hR1, hF1⟩))
          go_ret
          exact ⟨rfl, hR1, hf1H.out.trans hF1 (by simp) (by simp)⟩
        | true =>
          have e : R.write i p = (0, { R.step.2 with new := R.step.2.new.set i.toNat p, on := R.step.2.on.set i.toNat true }) := by simp [RM.write, hh, hS]
          rw [e]
          rw [hS] at hst
          have hlast := R.step_last
          generalize R.step.2 = E at *
          rw [← hlast] at hi1 c0
          have hii : i.toNat < E.last.length := by omega
          have hstH := Lib.hid hst
          have hf1H := Lib.hid hf1
          have hpgH := Lib.hid hpg
          have hlastH := Lib.hid hlast
          clear hst hf1 hpg hlast
          clear e h h0 hS hh hd h2
          go_enter Try.func22, Try.ntmps22
          go_wp2_with (first
            | (go_at_call 52; refine (hstH.out).mono ?_; rintro e w1 ⟨rfl, hR1, hF1⟩))
          obtain ⟨n1, n2, n3, n4, n5, n6⟩ := hR1.ne
          have hR2 := hR1.keep (S := []) (Fr.refl _ _).drew (by simp) (by simp) (by simp) (by simp)
          obtain ⟨T, hT⟩ : ∃ T : Bool → Bool → World → Prop, ∀ b c x, T b c x ↔ (Blk x nb 31 (flat (if b then E.new.set i.toNat p else E.new)) ∧ Blk x ob 4 (bs (if c then E.on.set i.toNat true else E.on)) ∧ Fr [nb, ob] w1.drew x) := ⟨_, fun _ _ _ => Iff.rfl⟩
          have hT0 : T false false w1.drew := (hT _ _ _).2 ⟨hR2.n, hR2.o, .refl _ _⟩
          have d1 : ∀ b c x, T b c x → (Instr.loadAt 23 (.pointer (some ⟨r, 1, none⟩))).run Try.prog x = .ok (.slice (some ⟨nb, 0, none⟩) E.last.length E.last.length) x := fun b c x hx => run_loadAt_one (by kernel_rfl) ((((hT b c x).1 hx).2.2.cell (p := ⟨r, 1, none⟩) hR2.rcd.lt (by simp; omega)).trans (hR2.rcd.cell 1))
          have d2 : ∀ b c x, T b c x → (Instr.loadAt 52 (.pointer (some ⟨r, 2, none⟩))).run Try.prog x = .ok (.slice (some ⟨ob, 0, none⟩) E.last.length E.last.length) x := fun b c x hx => run_loadAt_one (by kernel_rfl) ((((hT b c x).1 hx).2.2.cell (p := ⟨r, 2, none⟩) hR2.rcd.lt (by simp; omega)).trans (hR2.rcd.cell 2))
          have hpb := (hpgH.out.keep hF1 (by simp; omega)).drew
          have hld : ∀ b c x, T b c x → (Instr.loadAt 31 (ptr w.heap.size)).run Try.prog x = .ok (pv p) x := fun b c x hx => run_load_pg pgTy (hpb.keep ((hT b c x).1 hx).2.2 (by simp; omega)).range1
          have hix : ∀ b c x, T b c x → (Instr.indexAt 23 (.slice (some ⟨nb, 0, none⟩) E.last.length E.last.length) (.int .i64 i)).run Try.prog x = .ok (.pointer (some ⟨nb, i.toNat * 64, none⟩)) x := fun b c x _ => run_index_row Try.underlying23 pgTy.size nb E.last.length E.last.length i (by omega) hi1 x
          have hiy : ∀ b c x, T b c x → (Instr.indexAt 52 (.slice (some ⟨ob, 0, none⟩) E.last.length E.last.length) (.int .i64 i)).run Try.prog x = .ok (.pointer (some ⟨ob, i.toNat * 1, none⟩)) x := fun b c x _ => run_index_row Try.underlying52 (by kernel_rfl) ob E.last.length E.last.length i (by omega) hi1 x
          have hsp : ∀ c x, T false c x → ∃ x', (Instr.storeAt 31 (.pointer (some ⟨nb, i.toNat * 64, none⟩)) (pv p)).run Try.prog x = .ok () x' ∧ T true c x' := fun c x hx => by
            obtain ⟨h1, h2, h3⟩ := (hT _ _ _).1 hx
            obtain ⟨x', h4, h5, h6, _⟩ := store_row pgTy h1 i.toNat (by simpa using (by rw [hR2.nl]; exact hii : i.toNat < E.new.length)) p
            exact ⟨x', h4, (hT _ _ _).2 ⟨by simpa using h5, h2.keep h6 (by simpa using n6.symm), h3.trans h6 (by simp) (by simp)⟩⟩
          have hsq : ∀ b x, T b false x → ∃ x', (Instr.storeAt 4 (.pointer (some ⟨ob, i.toNat * 1, none⟩)) (.bool true)).run Try.prog x = .ok () x' ∧ T b true x' := fun b x hx => by
            obtain ⟨h1, h2, h3⟩ := (hT _ _ _).1 hx
            simp only [Bool.false_eq_true, if_false] at h2
            have hc := bs_cell h2 i.toNat (by rw [hR2.ol]; exact hii)
            refine ⟨x.setCell ⟨ob, i.toNat, none⟩ (.bool true), ?_, (hT _ _ _).2 ⟨h1.setCell_other (by simpa using n6) _, ?_, h3.setCell _ _ (by simp)⟩⟩
            · rw [Nat.mul_one]; exact run_storeAt_one (by kernel_rfl) hc (h2.frozen _) rfl
            · have := h2.setCell_same i.toNat (.bool true)
              simpa [bs, List.map_set] using this
          have hfin : ∀ x, T true true x → RefAt x r lb nb ob { E with new := E.new.set i.toNat p, on := E.on.set i.toNat true } ∧ Fr [r, nb, ob] w x := fun x hx => by
            obtain ⟨h1, h2, h3⟩ := (hT _ _ _).1 hx
            refine ⟨{ rcd := hR2.rcd.keep h3 (by simp; omega), l := hR2.l.keep h3 (by simp; omega), n := by simpa using h1, o := by simpa using h2, nl := by simpa using hR2.nl, ol := by simpa using hR2.ol, len := hR2.len, ne := hR2.ne, left := hR2.left }, ?_⟩
            exact ((hf1H.out.trans hF1 (S := [r, nb, ob]) (by simp) (by simp)).drew).trans h3 (by simp) (by simp)
          have d1H := Lib.hid d1
          have d2H := Lib.hid d2
          have hldH := Lib.hid hld
          have hixH := Lib.hid hix
          have hiyH := Lib.hid hiy
          have hspH := Lib.hid hsp
          have hsqH := Lib.hid hsq
          have hfinH := Lib.hid hfin
          have hTH := Lib.hid hT
          clear d1 d2 hld hix hiy hsp hsq hfin hT
          clear hR1 hR2 hF1 hpb
          refine wp_region_flag (flagS 12 14 T) (by kernel_rfl) (by kernel_rfl) (by kernel_rfl) hT0 ?_
          repeat ((first
            | ((with_reducible refine wpFlag_load (d1H.out) ?_ ?_ ?_ ?_ ?_); decide; decide; rfl; rfl)
            | ((with_reducible refine wpFlag_load (d2H.out) ?_ ?_ ?_ ?_ ?_); decide; decide; rfl; rfl)
            | ((with_reducible refine wpFlag_load (hldH.out) ?_ ?_ ?_ ?_ ?_); decide; decide; rfl; rfl)
            | ((with_reducible refine wpFlag_indexAddr (hixH.out) ?_ ?_ ?_ ?_ ?_ ?_); decide; decide; rfl; rfl; rfl)
            | ((with_reducible refine wpFlag_indexAddr (hiyH.out) ?_ ?_ ?_ ?_ ?_ ?_); decide; decide; rfl; rfl; rfl)
            | ((with_reducible refine wpFlag_storep (hspH.out) ?_ ?_ ?_ ?_ ?_ ?_); decide; rfl; rfl; rfl; rfl)
            | ((with_reducible refine wpFlag_storeq (hsqH.out) ?_ ?_ ?_ ?_ ?_ ?_); decide; rfl; rfl; rfl; rfl)
            | (refine wpFlag_value (by decide) (by decide) rfl (fun b c w hS => by go_simp; rfl) ?_)); (try simp only [Act.put, List.setIfInBounds_toArray, List.set_cons_succ, List.set_cons_zero]))
          refine wpFlag_nil ?_
          intro listed w7 hall hS7
          have h12 := hall 12 (by decide)
          have h14 := hall 14 (by decide)
          unfold flagS at hS7
          rw [h12, h14] at hS7
          have hend := hfinH.out _ hS7
          have hendH := Lib.hid hend
          clear hend
          clear hall h12 h14 hS7
          go_wp2
          go_ret
          exact ⟨rfl, hendH.out⟩
end Go.Proofs
