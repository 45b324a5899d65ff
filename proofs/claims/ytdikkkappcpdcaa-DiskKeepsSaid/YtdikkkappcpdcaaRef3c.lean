/- The document's disk (narthexref03): flushing, counting. -/
import Derived.Test.YtdikkkappcpdcaaRef3b
namespace Go.Proofs
open Go Go.RowKit Go.Nx
set_option maxRecDepth 100000
set_option linter.unusedVariables false

/-- The pages behind the first k of a Flush's rounds; what is on then. -/
def RM.fl (R : RM) (k : Nat) : List Pg := R.last.mapIdx fun j p => if j < k ∧ R.on.getD j false = true then R.new.getD j Pg.zero else p
def RM.fo (R : RM) (k : Nat) : List Bool := R.on.mapIdx fun j b => if j < k then false else b

theorem RM.fl_len (R : RM) (k : Nat) : (R.fl k).length = R.last.length := by simp [RM.fl]
theorem RM.fo_len (R : RM) (k : Nat) : (R.fo k).length = R.on.length := by simp [RM.fo]
theorem RM.fl_zero (R : RM) : R.fl 0 = R.last := by
  apply List.ext_getElem?; intro j; simp [RM.fl, List.getElem?_mapIdx]
theorem RM.fo_zero (R : RM) : R.fo 0 = R.on := by
  apply List.ext_getElem?; intro j; simp [RM.fo, List.getElem?_mapIdx]
theorem RM.fo_get (R : RM) (k : Nat) : (R.fo k).getD k false = R.on.getD k false := by
  simp [RM.fo, List.getD, List.getElem?_mapIdx]
theorem RM.fl_on (R : RM) (k : Nat) (h : R.on.getD k false = true) : (R.fl k).set k (R.new.getD k Pg.zero) = R.fl (k + 1) := by
  apply List.ext_getElem?; intro j
  simp only [RM.fl, List.getElem?_set, List.getElem?_mapIdx, List.length_mapIdx]
  by_cases e : k = j
  · subst e
    by_cases hk : k < R.last.length
    · have h' : R.on[k]?.getD false = true := by simpa [List.getD] using h
      simp [hk, h', List.getD]
    · simp [List.getElem?_eq_none (Nat.le_of_not_lt hk), hk]
  · have : (j < k + 1) ↔ (j < k) := by omega
    simp [e, this]
theorem RM.fl_off (R : RM) (k : Nat) (h : R.on.getD k false = false) : R.fl k = R.fl (k + 1) := by
  apply List.ext_getElem?; intro j
  simp only [RM.fl, List.getElem?_mapIdx]
  congr 1; funext p
  by_cases e : j = k
  · subst e; simp only [h]; simp
  · have : (j < k + 1) ↔ (j < k) := by omega
    simp [this]
theorem RM.fo_set (R : RM) (k : Nat) : (R.fo k).set k false = R.fo (k + 1) := by
  apply List.ext_getElem?; intro j
  simp only [RM.fo, List.getElem?_set, List.getElem?_mapIdx, List.length_mapIdx]
  by_cases e : k = j
  · subst e
    by_cases hk : k < R.on.length
    · simp [hk]
    · simp [List.getElem?_eq_none (Nat.le_of_not_lt hk), hk]
  · have : (j < k + 1) ↔ (j < k) := by omega
    simp [e, this]
theorem RM.fo_off (R : RM) (k : Nat) (h : R.on.getD k false = false) : R.fo k = R.fo (k + 1) := by
  apply List.ext_getElem?; intro j
  simp only [RM.fo, List.getElem?_mapIdx]
  cases hj : R.on[j]? with
  | none => rfl
  | some b =>
    simp only [Option.map_some, Option.some.injEq]
    by_cases e : j = k
    · subst e
      have : b = false := by simpa [List.getD, hj] using h
      simp [this]
    · have : (j < k + 1) ↔ (j < k) := by omega
      simp [this]

def RM.flush (R : RM) : Int × RM :=
  if R.down then (5, R) else if R.step.1 then (0, { R.step.2 with last := R.step.2.fl R.last.length, on := R.step.2.fo R.last.length }) else (5, R.step.2)

def RFlushInv (w : World) (r lb nb ob : Nat) (E : RM) (k : Nat) (i : Value) (wr : World) : Prop :=
  ∃ n : Nat, i = .int .i64 n ∧ k + n = E.last.length ∧ RefAt wr r lb nb ob { E with last := E.fl n, on := E.fo n } ∧ Fr [lb, ob] w wr

set_option maxHeartbeats 1600000 in
theorem rflush_any (w : World) (r lb nb ob : Nat) (R : RM) (h : RefAt w r lb nb ob R) :
    Calls Try.prog 24 #[ptr r] w fun e w' => e = .returned (.int .i64 R.flush.1) ∧ RefAt w' r lb nb ob R.flush.2 ∧ Fr [r, lb, ob] w w' := by
  have c4 : w.cell? ⟨r, 4, none⟩ = _ := h.rcd.cell 4
  simp only [List.getElem?_cons_zero, List.getElem?_cons_succ] at c4
  have hst := rstep_any w r lb nb ob R h
  have hrl := h.rcd.lt
  have hll := h.l.lt
  have hnl := h.n.lt
  have hol := h.o.lt
  cases hd : R.down with
  | true =>
    have e : R.flush = (5, R) := by simp [RM.flush, hd]
    rw [hd] at c4
    rw [e]
    have hH := Lib.hid h
    clear h e hst hd
    go_enter Try.func24, Try.ntmps24
    go_wp2
    go_ret
    exact ⟨rfl, hH.out, .refl _ _⟩
  | false =>
    rw [hd] at c4
    cases hS : R.step.1 with
    | false =>
      have e : R.flush = (5, R.step.2) := by simp [RM.flush, hd, hS]
      rw [e]
      rw [hS] at hst
      have hstH := Lib.hid hst
      clear hst
      clear e h hd hS
      go_enter Try.func24, Try.ntmps24
      go_wp2_with (first
        | (go_at_call 52; refine (hstH.out).mono ?_; rintro e w' ⟨rfl, hR1, hF1⟩))
      go_ret
      exact ⟨rfl, hR1, hF1.mono (by simp)⟩
    | true =>
      have e : R.flush = (0, { R.step.2 with last := R.step.2.fl R.step.2.last.length, on := R.step.2.fo R.step.2.last.length }) := by simp [RM.flush, hd, hS, RM.step_last]
      rw [e]
      rw [hS] at hst
      generalize R.step.2 = E at *
      have hstH := Lib.hid hst
      clear hst
      clear e h hd hS
      go_enter Try.func24, Try.ntmps24
      go_wp2_with (first
        | (go_at_call 52; refine (hstH.out).mono ?_; rintro e w1 ⟨rfl, hR1, hF1⟩))
      have hlen := hR1.len
      have hR1H := Lib.hid hR1
      have hF1H := Lib.hid hF1
      clear hR1 hF1
      go_loopg [3] E.last.length (fun k i wr => RFlushInv w1 r lb nb ob E k i wr)
      case atStart => exact ⟨0, rfl, rfl, by rw [RM.fl_zero, RM.fo_zero]; exact hR1H.out, .refl _ _⟩
      case round =>
        obtain ⟨n, rfl, hk, hRr, hFr⟩ := hrel
        obtain ⟨n1, n2, n3, n4, n5, n6⟩ := hRr.ne
        have hl2 := RM.fl_len E n
        have e0 : wr.cell? ⟨r, 0, none⟩ = _ := hRr.rcd.cell 0
        have e2 : wr.cell? ⟨r, 2, none⟩ = _ := hRr.rcd.cell 2
        simp only [List.getElem?_cons_zero, List.getElem?_cons_succ, hl2] at e0 e2
        by_cases hlt : n < E.last.length
        · have hon : n < E.on.length := by have := hRr.ol; simp only [hl2, RM.fo_len] at this; omega
          have hnew : n < E.new.length := by have := hRr.nl; simp only [hl2] at this; omega
          have hcb := bs_cell hRr.o n (by rw [RM.fo_len]; exact hon)
          rw [show ({ E with last := E.fl n, on := E.fo n } : RM).on = E.fo n from rfl, RM.fo_get] at hcb
          have hiI : (n : Int) < (E.last.length : Int) := by omega
          cases hb : E.on.getD n false with
          | false =>
            rw [hb] at hcb
            have hfin : RFlushInv w1 r lb nb ob E (gk - 1) (.int .i64 ((n : Int) + 1)) wr ∧ gk - 1 < gk := by
              refine ⟨⟨n + 1, rfl, by omega, ?_, hFr⟩, by omega⟩
              rw [← RM.fl_off E n hb, ← RM.fo_off E n hb]; exact hRr
            have hfinH := Lib.hid hfin
            clear hfin
            clear hRr hFr hl2 hb
            go_wp2
            go_roundg (gk - 1)
            case measure => exact hfinH.out.2
            case rel => exact hfinH.out.1
          | true =>
            rw [hb] at hcb
            have hR2 := hRr.keep (S := []) (Fr.refl _ _).drew (by simp) (by simp) (by simp) (by simp)
            obtain ⟨T, hT⟩ : ∃ T : Bool → Bool → World → Prop, ∀ b c x, T b c x ↔ (Blk x lb 31 (flat (if b then (E.fl n).set n (E.new.getD n Pg.zero) else E.fl n)) ∧ Blk x ob 4 (bs (if c then (E.fo n).set n false else E.fo n)) ∧ Fr [lb, ob] wr.drew x) := ⟨_, fun _ _ _ => Iff.rfl⟩
            have hT0 : T false false wr.drew := (hT _ _ _).2 ⟨hR2.l, hR2.o, .refl _ _⟩
            have hrl2 := hR2.rcd.lt
            have d0 : ∀ b c x, T b c x → (Instr.loadAt 23 (.pointer (some ⟨r, 0, none⟩))).run Try.prog x = .ok (.slice (some ⟨lb, 0, none⟩) E.last.length E.last.length) x := fun b c x hx => run_loadAt_one (by kernel_rfl) ((((hT b c x).1 hx).2.2.cell (p := ⟨r, 0, none⟩) hrl2 (by simp; omega)).trans (by rw [← hl2]; exact hR2.rcd.cell 0))
            have d1 : ∀ b c x, T b c x → (Instr.loadAt 23 (.pointer (some ⟨r, 1, none⟩))).run Try.prog x = .ok (.slice (some ⟨nb, 0, none⟩) E.last.length E.last.length) x := fun b c x hx => run_loadAt_one (by kernel_rfl) ((((hT b c x).1 hx).2.2.cell (p := ⟨r, 1, none⟩) hrl2 (by simp; omega)).trans (by rw [← hl2]; exact hR2.rcd.cell 1))
            have d2 : ∀ b c x, T b c x → (Instr.loadAt 52 (.pointer (some ⟨r, 2, none⟩))).run Try.prog x = .ok (.slice (some ⟨ob, 0, none⟩) E.last.length E.last.length) x := fun b c x hx => run_loadAt_one (by kernel_rfl) ((((hT b c x).1 hx).2.2.cell (p := ⟨r, 2, none⟩) hrl2 (by simp; omega)).trans (by rw [← hl2]; exact hR2.rcd.cell 2))
            have hix : ∀ b c x, T b c x → (Instr.indexAt 23 (.slice (some ⟨lb, 0, none⟩) E.last.length E.last.length) (.int .i64 (n : Int))).run Try.prog x = .ok (.pointer (some ⟨lb, n * 64, none⟩)) x := fun b c x _ => run_index_row Try.underlying23 pgTy.size lb E.last.length E.last.length n (by omega) hiI x
            have hin : ∀ b c x, T b c x → (Instr.indexAt 23 (.slice (some ⟨nb, 0, none⟩) E.last.length E.last.length) (.int .i64 (n : Int))).run Try.prog x = .ok (.pointer (some ⟨nb, n * 64, none⟩)) x := fun b c x _ => run_index_row Try.underlying23 pgTy.size nb E.last.length E.last.length n (by omega) hiI x
            have hiy : ∀ b c x, T b c x → (Instr.indexAt 52 (.slice (some ⟨ob, 0, none⟩) E.last.length E.last.length) (.int .i64 (n : Int))).run Try.prog x = .ok (.pointer (some ⟨ob, n * 1, none⟩)) x := fun b c x _ => run_index_row Try.underlying52 (by kernel_rfl) ob E.last.length E.last.length n (by omega) hiI x
            have hgn : E.new.getD n Pg.zero = E.new[n] := by simp [List.getD, hnew]
            have hld : ∀ b c x, T b c x → (Instr.loadAt 31 (.pointer (some ⟨nb, n * 64, none⟩))).run Try.prog x = .ok (pv (E.new.getD n Pg.zero)) x := fun b c x hx => by
              rw [hgn]
              exact run_load_pg pgTy ((hR2.n.keep ((hT b c x).1 hx).2.2 (by simp; omega)).range n hnew)
            have hsp : ∀ c x, T false c x → ∃ x', (Instr.storeAt 31 (.pointer (some ⟨lb, n * 64, none⟩)) (pv (E.new.getD n Pg.zero))).run Try.prog x = .ok () x' ∧ T true c x' := fun c x hx => by
              obtain ⟨h1, h2, h3⟩ := (hT _ _ _).1 hx
              simp only [Bool.false_eq_true, if_false] at h1
              obtain ⟨x', h4, h5, h6, _⟩ := store_row pgTy h1 n (by rw [hl2]; exact hlt) (E.new.getD n Pg.zero)
              exact ⟨x', h4, (hT _ _ _).2 ⟨by simpa using h5, h2.keep h6 (by simpa using n5.symm), h3.trans h6 (by simp) (by simp)⟩⟩
            have hsq : ∀ b x, T b false x → ∃ x', (Instr.storeAt 4 (.pointer (some ⟨ob, n * 1, none⟩)) (.bool false)).run Try.prog x = .ok () x' ∧ T b true x' := fun b x hx => by
              obtain ⟨h1, h2, h3⟩ := (hT _ _ _).1 hx
              simp only [Bool.false_eq_true, if_false] at h2
              have hc := bs_cell h2 n (by rw [RM.fo_len]; exact hon)
              refine ⟨x.setCell ⟨ob, n, none⟩ (.bool false), ?_, (hT _ _ _).2 ⟨h1.setCell_other (by simpa using n5) _, ?_, h3.setCell _ _ (by simp)⟩⟩
              · rw [Nat.mul_one]; exact run_storeAt_one (by kernel_rfl) hc (h2.frozen _) rfl
              · have := h2.setCell_same n (.bool false)
                simpa [bs, List.map_set] using this
            have hfin : ∀ x, T true true x → RFlushInv w1 r lb nb ob E (gk - 1) (.int .i64 ((n : Int) + 1)) x ∧ gk - 1 < gk := fun x hx => by
              obtain ⟨h1, h2, h3⟩ := (hT _ _ _).1 hx
              simp only [if_true] at h1 h2
              rw [RM.fl_on E n hb] at h1
              rw [RM.fo_set] at h2
              have hl3 := RM.fl_len E (n + 1)
              refine ⟨⟨n + 1, rfl, by omega, { rcd := ?_, l := h1, n := hR2.n.keep h3 (by simp; omega), o := h2, nl := ?_, ol := ?_, len := by simp only [hl3]; omega, ne := hR2.ne, left := hR2.left }, hFr.drew.trans h3 (by simp) (by simp)⟩, by omega⟩
              · have := hR2.rcd.keep h3 (by simp; omega)
                simpa only [hl2, hl3] using this
              · have := hRr.nl; simp only [hl2] at this; simp only [hl3]; exact this
              · have := hRr.ol; simp only [hl2, RM.fo_len] at this; simp only [hl3, RM.fo_len]; exact this
            have d0H := Lib.hid d0
            have d1H := Lib.hid d1
            have d2H := Lib.hid d2
            have hixH := Lib.hid hix
            have hinH := Lib.hid hin
            have hiyH := Lib.hid hiy
            have hldH := Lib.hid hld
            have hspH := Lib.hid hsp
            have hsqH := Lib.hid hsq
            have hfinH := Lib.hid hfin
            have hTH := Lib.hid hT
            clear d0 d1 d2 hix hin hiy hld hsp hsq hfin hT
            clear hRr hFr hl2 hb hR2 hgn
            go_wp2_with fail
            refine wp_region_flag (flagS 18 20 T) (by kernel_rfl) (by kernel_rfl) (by kernel_rfl) hT0 ?_
            repeat ((first
              | ((with_reducible refine wpFlag_load (d0H.out) ?_ ?_ ?_ ?_ ?_); decide; decide; rfl; rfl)
              | ((with_reducible refine wpFlag_load (d1H.out) ?_ ?_ ?_ ?_ ?_); decide; decide; rfl; rfl)
              | ((with_reducible refine wpFlag_load (d2H.out) ?_ ?_ ?_ ?_ ?_); decide; decide; rfl; rfl)
              | ((with_reducible refine wpFlag_load (hldH.out) ?_ ?_ ?_ ?_ ?_); decide; decide; rfl; rfl)
              | ((with_reducible refine wpFlag_indexAddr (hixH.out) ?_ ?_ ?_ ?_ ?_ ?_); decide; decide; rfl; rfl; rfl)
              | ((with_reducible refine wpFlag_indexAddr (hinH.out) ?_ ?_ ?_ ?_ ?_ ?_); decide; decide; rfl; rfl; rfl)
              | ((with_reducible refine wpFlag_indexAddr (hiyH.out) ?_ ?_ ?_ ?_ ?_ ?_); decide; decide; rfl; rfl; rfl)
              | ((with_reducible refine wpFlag_storep (hspH.out) ?_ ?_ ?_ ?_ ?_ ?_); decide; rfl; rfl; rfl; rfl)
              | ((with_reducible refine wpFlag_storeq (hsqH.out) ?_ ?_ ?_ ?_ ?_ ?_); decide; rfl; rfl; rfl; rfl)
              | (refine wpFlag_value (by decide) (by decide) rfl (fun b c w hS => by go_simp; rfl) ?_)); (try simp only [Act.put, List.setIfInBounds_toArray, List.set_cons_succ, List.set_cons_zero]))
            refine wpFlag_nil ?_
            intro listed w7 hall hS7
            have h12 := hall 18 (by decide)
            have h14 := hall 20 (by decide)
            unfold flagS at hS7
            rw [h12, h14] at hS7
            have hend := hfinH.out _ hS7
            have hendH := Lib.hid hend
            clear hend
            clear hall h12 h14 hS7
            go_wp2
            go_roundg (gk - 1)
            case measure => exact hendH.out.2
            case rel => exact hendH.out.1
        · have hn : n = E.last.length := by omega
          subst hn
          have hfin : RefAt wr r lb nb ob { E with last := E.fl E.last.length, on := E.fo E.last.length } ∧ Fr [r, lb, ob] w wr :=
            ⟨hRr, hF1H.out.trans hFr (by simp) (by simp)⟩
          have hfinH := Lib.hid hfin
          clear hfin
          clear hRr hFr hl2
          go_wp2
          go_ret
          exact ⟨rfl, hfinH.out⟩
end Go.Proofs
