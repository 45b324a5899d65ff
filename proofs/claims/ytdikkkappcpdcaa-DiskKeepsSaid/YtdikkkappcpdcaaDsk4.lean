/- The disk (layer 3): Flush. -/
import Derived.Test.YtdikkkappcpdcaaDsk3
import Derived.Deep.LoopGhost
import Derived.Maps.RangeWalk
namespace Go.Proofs
open Go Go.RowKit Go.Nx
set_option maxRecDepth 100000
set_option linter.unusedVariables false

/-- The pages with those of a list laid over them. -/
def layAll (ps : List Pg) (l : List (Int × Pg)) : List Pg := l.foldl (fun ps x => ps.set x.1.toNat x.2) ps

theorem layAll_length (l : List (Int × Pg)) (ps : List Pg) : (layAll ps l).length = ps.length := by
  unfold layAll
  induction l generalizing ps with
  | nil => rfl
  | cons x l ih => simp [ih]

theorem layAll_snoc (ps : List Pg) (l : List (Int × Pg)) (x : Int × Pg) : layAll ps (l ++ [x]) = (layAll ps l).set x.1.toNat x.2 := by
  simp [layAll]

theorem lookup_none {l : List (Int × Pg)} {i : Int} (h : i ∉ l.map (·.1)) : l.lookup i = none := by
  induction l with
  | nil => rfl
  | cons x l ih =>
    obtain ⟨k, p⟩ := x
    simp only [List.map_cons, List.mem_cons, not_or] at h
    have : (i == k) = false := by simpa using h.1
    simp [List.lookup, this, ih h.2]

theorem lookup_mem {l : List (Int × Pg)} (hn : (l.map (·.1)).Nodup) {i : Int} {p : Pg} (h : (i, p) ∈ l) : l.lookup i = some p := by
  induction l with
  | nil => cases h
  | cons x l ih =>
    obtain ⟨k, q⟩ := x
    simp only [List.map_cons, List.nodup_cons] at hn
    rcases List.mem_cons.1 h with h | h
    · cases h; simp [List.lookup]
    · have hne : (i == k) = false := by
        have : i ≠ k := fun e => hn.1 (e ▸ List.mem_map.2 ⟨_, h, rfl⟩)
        simpa using this
      simp [List.lookup, hne, ih hn.2 h]

theorem layAll_get (l : List (Int × Pg)) (hn : (l.map (·.1)).Nodup) (hp : ∀ x ∈ l, 0 ≤ x.1) : ∀ (ps : List Pg) (j : Nat), (layAll ps l)[j]? = (ps[j]?).map fun p => (l.lookup (j : Int)).getD p := by
  induction l with
  | nil => intro ps j; simp [layAll]
  | cons x l ih =>
    obtain ⟨k, q⟩ := x
    simp only [List.map_cons, List.nodup_cons] at hn
    intro ps j
    have h0 := hp (k, q) (by simp)
    show (layAll (ps.set k.toNat q) l)[j]? = _
    rw [ih hn.2 (fun x hx => hp x (by simp [hx]))]
    by_cases e : (j : Int) = k
    · subst e
      have : l.lookup (j : Int) = none := lookup_none hn.1
      simp only [List.lookup, this, beq_self_eq_true, Int.toNat_natCast, List.getElem?_set]
      by_cases hj : j < ps.length
      · simp [hj]
      · simp [List.getElem?_eq_none (Nat.le_of_not_lt hj), hj]
    · have e' : ((j : Int) == k) = false := by simpa using e
      have hkj : k.toNat ≠ j := by omega
      simp only [List.lookup, e', List.getElem?_set, if_neg hkj]

/-- What a disk's pages are behind a Flush. -/
def laid (ps : List Pg) (c : List (Int × Pg)) : List Pg := ps.mapIdx fun j p => (c.lookup (j : Int)).getD p

theorem laid_length (ps : List Pg) (c : List (Int × Pg)) : (laid ps c).length = ps.length := by simp [laid]

theorem layAll_laid (ps : List Pg) (l c : List (Int × Pg)) (hl : (l.map (·.1)).Nodup) (hc : (c.map (·.1)).Nodup) (hp : ∀ x ∈ l, 0 ≤ x.1) (h1 : ∀ x ∈ l, x ∈ c) (h2 : ∀ x ∈ c, x ∈ l) : layAll ps l = laid ps c := by
  apply List.ext_getElem?
  intro j
  rw [layAll_get l hl hp]
  have hlk : l.lookup (j : Int) = c.lookup (j : Int) := by
    cases h : l.lookup (j : Int) with
    | some p =>
      have hm : ((j : Int), p) ∈ l := by
        clear hl hp h1 h2
        induction l with
        | nil => cases h
        | cons x l ih =>
          obtain ⟨k, q⟩ := x
          by_cases e : ((j : Int) == k) = true
          · have hk : (j : Int) = k := by simpa using e
            subst hk
            simp [List.lookup] at h; subst h; simp
          · simp only [Bool.not_eq_true] at e
            simp only [List.lookup, e] at h
            exact List.mem_cons_of_mem _ (ih h)
      exact (lookup_mem hc (h1 _ hm)).symm
    | none =>
      refine (lookup_none fun hm => ?_).symm
      obtain ⟨x, hx, he⟩ := List.mem_map.1 hm
      obtain ⟨k, q⟩ := x
      simp only at he
      subst he
      rw [lookup_mem hl (h2 _ hx)] at h
      cases h
  simp [laid, List.getElem?_mapIdx, hlk]

def DM.flush (D : DM) : Int × DM := if D.burn.1 then (0, { D.burn.2 with pages := laid D.pages D.cache, cache := [] }) else (5, D.burn.2)

theorem mem_pvs {l : List (Int × Pg)} {kv : Int × Value} (h : kv ∈ pvs l) : ∃ x ∈ l, kv = (x.1, pv x.2) := by
  unfold pvs at h
  obtain ⟨x, hx, rfl⟩ := List.mem_map.1 h
  exact ⟨x, hx, rfl⟩
theorem pv_inj {p q : Pg} (h : pv p = pv q) : p = q := by
  have : (cl p).toArray = (cl q).toArray := by injection h
  exact cl_inj (by simpa using this)
theorem mem_of_pvs {l : List (Int × Pg)} {x : Int × Pg} (h : (x.1, pv x.2) ∈ pvs l) : x ∈ l := by
  obtain ⟨y, hy, e⟩ := mem_pvs h
  simp only [Prod.mk.injEq] at e
  have : x = y := Prod.ext e.1 (pv_inj e.2)
  exact this ▸ hy

/-- What holds at the head of Flush's loop: k pages at most are still to come. -/
def FlushInv (w : World) (d pb cb r : Nat) (D : DM) (k : Nat) (wr : World) : Prop :=
  ∃ done : List (Int × Pg), k + done.length = D.cache.length ∧ IterIs wr r cb (pvs D.cache) (pvs done) ∧ DiskAt wr d pb cb { D with pages := layAll D.pages done } ∧ Fr [pb] w wr ∧ w.heap.size ≤ r

set_option maxHeartbeats 800000 in
theorem flush_any (w : World) (d pb cb : Nat) (D : DM) (h : DiskAt w d pb cb D) :
    Calls Try.prog 16 #[ptr d] w fun e w' => e = .returned (.int .i64 D.flush.1) ∧ DiskAt w' d pb cb D.flush.2 ∧ Fr [d, pb, cb] w w' := by
  have hb := burn_any w d pb cb D h
  cases hB : D.burn.1 with
  | false =>
    have e : D.flush = (5, D.burn.2) := by simp [DM.flush, hB]
    rw [e]
    rw [hB] at hb
    have hbH := Lib.hid hb
    clear hb
    clear e hB h
    go_enter Try.func16, Try.ntmps16
    go_wp2_with (first
      | (go_at_call 49; refine (hbH.out).mono ?_; rintro e w' ⟨rfl, hD1, hf1⟩))
    go_ret
    exact ⟨rfl, hD1, hf1.mono (by simp)⟩
  | true =>
    have e : D.flush = (0, { D.burn.2 with pages := laid D.pages D.cache, cache := [] }) := by simp [DM.flush, hB]
    rw [e]
    rw [hB] at hb
    have hbH := Lib.hid hb
    clear hb
    have hpg := D.burn_pages
    have hca := D.burn_cache
    generalize D.burn.2 = E at *
    have hhd := h.dsk.lt
    have hhp := h.pgs.lt
    have hhc := h.map.lt
    have hpgH := Lib.hid hpg
    have hcaH := Lib.hid hca
    have hH := Lib.hid h
    clear hpg hca h
    clear e hB
    go_enter Try.func16, Try.ntmps16
    go_wp2_with (first
      | (go_at_call 49; refine (hbH.out).mono ?_; rintro e w' ⟨rfl, hD1, hf1⟩; have c4 := hD1.c4; have Hf1 := Lib.hid hf1; clear hf1; obtain ⟨oi, hrg, hit⟩ := run_range (P := Try.prog) hD1.map 29 _ _ Try.underlying29; have hrgH := Lib.hid hrg; clear hrg; have hitH := Lib.hid hit; clear hit; have hD1H := Lib.hid hD1; clear hD1)
      | ((with_reducible refine wpList_range hrgH.out ?_ ?_ ?_); rfl; rfl))
    go_frame
    have hlen : 0 + D.cache.length = D.cache.length := by omega
    go_loopg [] D.cache.length (fun k wr => FlushInv w' d pb cb w'.heap.size E k wr)
    case atStart =>
      refine ⟨[], by rw [hcaH.out]; simp, hitH.out, ?_, (Fr.refl _ _).alloc _, Nat.le_refl _⟩
      exact hD1H.out.keep (S := []) ((Fr.refl _ _).alloc _) (by simp) (by simp) (by simp)
    case round =>
      obtain ⟨done, hk, hI, hDr, hFr, hr⟩ := hrel
      rcases run_next (P := Try.prog) hI with ⟨kv, w1, hin, hnin, hnx, hf1, hs1, hI1⟩ | ⟨hall, hnx⟩
      · obtain ⟨x, hx, rfl⟩ := mem_pvs hin
        have hkx := hDr.keys x hx
        have hlen := layAll_length done E.pages
        simp only [hlen] at hkx
        have hit0 := hitH.out.lt
        have hbig : w'.heap.size < wr.heap.size := hI.lt
        have hd1 : d < w'.heap.size := hD1H.out.dsk.lt
        have hp1 : pb < w'.heap.size := hD1H.out.pgs.lt
        have hc1 : cb < w'.heap.size := hD1H.out.map.lt
        have hen := run_entry (P := Try.prog) hI1
        have hal := run_alloc_pg (P := Try.prog) pgTy w1
        have hfa : Fr [w'.heap.size] wr (w1.alloc zbox) := hf1.alloc _
        obtain ⟨w2, hst, hb2, hf2, hs2⟩ := store_box pgTy (Blk.new w1 31 (cl Pg.zero)) x.2
        have hld := run_load_pg (P := Try.prog) pgTy hb2.drew.range1
        have hF2 : Fr [w'.heap.size] wr w2.drew := (hfa.trans hf2 (S := [w'.heap.size]) (by simp) (by simp; omega)).drew
        have hD2 : DiskAt w2.drew d pb cb { E with pages := layAll E.pages done } := hDr.keep hF2 (by simp; omega) (by simp; omega) (by simp; omega)
        have c3 := hD2.c3
        simp only [hlen] at c3
        have hix := run_index_row (P := Try.prog) (S := 23) Try.underlying23 pgTy.size pb E.pages.length E.pages.length x.1 hkx.1 hkx.2 w2.drew
        obtain ⟨w3, hst3, hb3, hf3, hs3⟩ := store_row pgTy hD2.pgs x.1.toNat (by simp only [hlen]; omega) x.2
        have hF3 : Fr [pb, w'.heap.size] wr w3 := hF2.trans hf3 (by simp) (by simp)
        have hI3 : IterIs w3 w'.heap.size cb (pvs E.cache) (pvs done ++ [(x.1, pv x.2)]) := by
          have hfx : Fr [pb] w1 w3 := (((Fr.refl [] w1).alloc zbox).trans hf2 (S := []) (by simp) (by simp)).drew.trans hf3 (by simp) (by simp)
          exact hI1.keep hfx (by simp; omega) (by simpa using hDr.ne3.symm)
        have hfin : FlushInv w' d pb cb w'.heap.size E (E.cache.length - (done.length + 1)) w3 ∧ E.cache.length - (done.length + 1) < gk := by
          have hlt : done.length < E.cache.length := by
            have h3 := iter_len hI1
            simp [pvs] at h3; omega
          refine ⟨⟨done ++ [x], by simp; omega, ?_, ?_, ?_, Nat.le_refl _⟩, by omega⟩
          · simpa [pvs] using hI3
          · rw [layAll_snoc]
            have hfx := hf3
            refine { dsk := ?_, pgs := hb3, map := hI3.map, ne1 := hDr.ne1, ne2 := hDr.ne2, ne3 := hDr.ne3, keys := ?_, left := hDr.left, ok := hDr.ok, len := ?_ }
            · have := hD2.dsk.keep hf3 (by simpa using hDr.ne1)
              simpa using this
            · simpa using hDr.keys
            · simpa using hDr.len
          · exact hFr.trans hF3 (by simp) (by simp)
        have henH := Lib.hid hen
        have halH := Lib.hid hal
        have hstH := Lib.hid hst
        have hldH := Lib.hid hld
        have hixH := Lib.hid hix
        have hst3H := Lib.hid hst3
        have hfinH := Lib.hid hfin
        have hnxH := Lib.hid hnx
        clear hen hal hst hld hix hst3 hfin hnx
        clear hI hDr hFr hr hin hnin hf1 hs1 hI1 hx hkx hlen hit0 hbig hd1 hp1 hc1 hfa hb2 hf2 hs2 hF2 hD2 hb3 hf3 hs3 hF3 hI3 hk
        go_wp2_with (first
          | ((with_reducible refine wpList_next (hnxH.out _) ?_ ?_ ?_); rfl; rfl)
          | ((with_reducible refine wpList_entry (henH.out) ?_ ?_ ?_); rfl; rfl)
          | ((with_reducible refine wpList_alloc (halH.out) ?_ ?_); rfl)
          | ((with_reducible refine wpList_store (hstH.out) ?_ ?_ ?_ ?_); rfl; rfl; rfl))
        refine wp_region_still_tail 7 (by kernel_rfl) (by kernel_rfl) ?_
        simp only [List.take_succ_cons, List.take_zero, List.drop_succ_cons, List.drop_zero, World.drew_eq]
        repeat (first | ((with_reducible refine wpStill_load (hldH.out) ?_ ?_ ?_); rfl; rfl) | ((with_reducible refine wpStill_indexAddr (hixH.out) ?_ ?_ ?_ ?_); rfl; rfl; rfl) | still_step)
        refine wpStill_nil ?_
        (with_reducible refine wpList_store (hst3H.out) ?_ ?_ ?_ ?_); rfl; rfl; rfl
        go_wp2_with fail
        go_roundg (E.cache.length - (done.length + 1))
        case measure => exact hfinH.out.2
        case rel => exact hfinH.out.1
      · have hc4 := hDr.c4
        have hpd : ∀ x ∈ E.cache, x ∈ done := fun x hx => mem_of_pvs (hall (x.1, pv x.2) (List.mem_map.2 ⟨x, hx, rfl⟩))
        have hdp : ∀ x ∈ done, x ∈ E.cache := fun x hx => mem_of_pvs (iter_done_mem hI (x.1, pv x.2) (List.mem_map.2 ⟨x, hx, rfl⟩))
        have hkd : (done.map (·.1)).Nodup := by have := iter_done_nodup hI; rwa [pvs_keys] at this
        have hkc : (E.cache.map (·.1)).Nodup := by have := hDr.map.nodup; rwa [pvs_keys] at this
        have hlay := layAll_laid E.pages done E.cache hkd hkc (fun x hx => (hDr.keys x (hdp x hx)).1) hdp hpd
        rw [hlay] at hDr
        obtain ⟨oc, hcl, hm⟩ := run_clear (P := Try.prog) hDr.map 29 _ _ 0 Try.underlying29
        have hfc : Fr [cb] wr (wr.setBlk cb oc) := (Fr.refl _ _).setBlk _ _ (by simp)
        have hfin : DiskAt (wr.setBlk cb oc) d pb cb { E with pages := laid D.pages D.cache, cache := [] } ∧ Fr [d, pb, cb] w (wr.setBlk cb oc) := by
          rw [← hpgH.out, ← hcaH.out]
          refine ⟨{ hDr with dsk := hDr.dsk.keep hfc (by simpa using hDr.ne2), pgs := hDr.pgs.keep hfc (by simpa using hDr.ne3), map := hm, keys := by simp }, ?_⟩
          exact (Hf1.out.trans hFr (S := [d, pb, cb]) (by simp) (by simp)).trans hfc (by simp) (by simp)
        have hfinH := Lib.hid hfin
        have hnxH := Lib.hid hnx
        clear hfin hnx
        clear hI hDr hFr hr hall hpd hdp hkd hkc hlay hm hfc hk
        go_wp2_with (first
          | ((with_reducible refine wpList_next (hnxH.out _) ?_ ?_ ?_); rfl; rfl))
        go_ret
        exact ⟨rfl, hfinH.out⟩
end Go.Proofs
