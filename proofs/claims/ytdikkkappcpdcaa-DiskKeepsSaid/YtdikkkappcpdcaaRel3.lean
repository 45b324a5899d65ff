/- The program's disk and the document's disk go together: plain lists and numbers, no program. -/
import Derived.Test.YtdikkkappcpdcaaRef3e
namespace Go.Proofs
open Go Go.RowKit Go.Nx
set_option maxRecDepth 100000
set_option linter.unusedVariables false

structure Rel (D : DM) (R : RM) : Prop where
  pages : D.pages = R.last
  nl : R.new.length = R.last.length
  ol : R.on.length = R.last.length
  nodup : (D.cache.map (·.1)).Nodup
  keys : ∀ x ∈ D.cache, 0 ≤ x.1 ∧ x.1 < D.pages.length
  look : ∀ j : Nat, j < R.last.length → D.cache.lookup (j : Int) = if R.on.getD j false = true then some (R.new.getD j Pg.zero) else none
  down : D.down = R.down
  fuse : D.down = false → (D.on = false ∧ R.left = -1) ∨ (D.on = true ∧ R.left = D.left ∧ 0 ≤ D.left)

theorem Rel.has {D : DM} {R : RM} (h : Rel D R) (i : Int) : D.has i = R.has i := by
  unfold DM.has RM.has; rw [h.down, h.pages]

/-- What a step does to both. -/
theorem Rel.step {D : DM} {R : RM} (h : Rel D R) (hd : D.down = false) : D.burn.1 = R.step.1 ∧ Rel D.burn.2 R.step.2 := by
  rcases h.fuse hd with ⟨h1, h2⟩ | ⟨h1, h2, h3⟩
  · have e1 : D.burn = (true, D) := by simp [DM.burn, hd, h1]
    have e2 : R.step = (true, R) := by
      have a1 : ¬ R.left = 0 := by omega
      have a2 : ¬ 0 < R.left := by omega
      unfold RM.step
      rw [if_neg a1, if_neg a2]
    rw [e1, e2]; exact ⟨rfl, h⟩
  · by_cases h0 : D.left = 0
    · have e1 : D.burn = (false, { D with left := -1, down := true }) := by simp [DM.burn, hd, h1, h0]
      have e2 : R.step = (false, { R with down := true }) := by simp [RM.step, h2, h0]
      rw [e1, e2]
      exact ⟨rfl, { h with down := rfl, fuse := fun h => by simp at h }⟩
    · have e1 : D.burn = (true, { D with left := D.left - 1, down := false }) := by
        have : ¬ (D.left - 1 < 0) := by omega
        simp [DM.burn, hd, h1, this]
      have e2 : R.step = (true, { R with left := R.left - 1 }) := by
        have a1 : ¬ R.left = 0 := by omega
        have a2 : 0 < R.left := by omega
        simp [RM.step, a1, a2]
      rw [e1, e2]
      refine ⟨rfl, { h with down := ?_, fuse := fun _ => .inr ⟨h1, ?_, ?_⟩ }⟩
      · show false = R.down
        rw [← h.down, hd]
      · show R.left - 1 = D.left - 1
        omega
      · show 0 ≤ D.left - 1
        omega

theorem lookup_insP (l : List (Int × Pg)) (i j : Int) (p : Pg) : (insP l i p).lookup j = if j = i then some p else l.lookup j := by
  unfold insP
  by_cases hm : i ∈ l.map (·.1)
  · rw [if_pos hm]
    skip
    induction l with
    | nil => simp at hm
    | cons x l ih =>
      obtain ⟨k, q⟩ := x
      simp only [List.map_cons, List.lookup]
      by_cases hk : k = i
      · subst hk
        simp only [if_true]
        by_cases hj : j = k
        · subst hj; simp
        · have : (j == k) = false := by simpa using hj
          simp only [this, if_neg hj]
          by_cases hm2 : k ∈ l.map (·.1)
          · have := ih hm2; rw [if_neg hj] at this; exact this
          · have : l.map (fun x => if x.1 = k then (k, p) else x) = l := by
              conv => rhs; rw [← List.map_id l]
              apply List.map_congr_left
              intro x hx
              rw [if_neg (fun e => hm2 (List.mem_map.2 ⟨x, hx, e⟩))]; rfl
            rw [this]
      · have hm2 : i ∈ l.map (·.1) := by
          simp only [List.map_cons, List.mem_cons] at hm
          rcases hm with h | h
          · exact absurd h.symm hk
          · exact h
        rw [if_neg hk]
        simp only
        by_cases hj : j = k
        · subst hj
          simp [hk]
        · have : (j == k) = false := by simpa using hj
          simp only [this]
          exact ih hm2
  · rw [if_neg hm]
    skip
    induction l with
    | nil =>
      by_cases hj : j = i
      · subst hj; simp [List.lookup]
      · have : (j == i) = false := by simpa using hj
        simp [List.lookup, this, hj]
    | cons x l ih =>
      obtain ⟨k, q⟩ := x
      simp only [List.map_cons, List.mem_cons, not_or] at hm
      simp only [List.cons_append, List.lookup]
      by_cases hj : j = k
      · subst hj
        have : ¬ j = i := fun e => hm.1 e.symm
        simp [this]
      · have : (j == k) = false := by simpa using hj
        simp only [this]
        exact ih hm.2

theorem insP_nodup {l : List (Int × Pg)} {i : Int} {p : Pg} (h : (l.map (·.1)).Nodup) : ((insP l i p).map (·.1)).Nodup := by
  unfold insP
  split
  · have : (l.map (fun x => if x.1 = i then (i, p) else x)).map (·.1) = l.map (·.1) := by
      rw [List.map_map]
      apply List.map_congr_left
      intro x _
      simp only [Function.comp]
      split
      · rename_i e; exact e.symm
      · rfl
    rw [this]; exact h
  · rename_i hm
    rw [List.map_append, List.nodup_append]
    exact ⟨h, by simp, fun a ha b hb => by simp at hb; subst hb; exact fun e => hm (e ▸ ha)⟩

theorem getD_set_list {α : Type} (l : List α) (i j : Nat) (a d : α) (hi : i < l.length) : (l.set i a).getD j d = if j = i then a else l.getD j d := by
  simp only [List.getD, List.getElem?_set]
  by_cases e : i = j
  · subst e; simp [hi]
  · have : ¬ j = i := fun h => e h.symm
    simp [e, this]

theorem Rel.write {D : DM} {R : RM} (h : Rel D R) (i : Int) (p : Pg) : (D.write i p).1 = (R.write i p).1 ∧ Rel (D.write i p).2 (R.write i p).2 := by
  unfold DM.write RM.write
  rw [← h.has]
  by_cases hh : D.has i = 0
  · have hz := DM.has_zero hh
    obtain ⟨h1, h2⟩ := h.step hz.1
    have hne : ¬ (D.has i ≠ 0) := by simpa using hh
    rw [if_neg hne, if_neg hne, ← h1]
    cases hb : D.burn.1 with
    | false => exact ⟨rfl, h2⟩
    | true =>
      rw [if_pos rfl, if_pos rfl]
      refine ⟨rfl, { pages := h2.pages, nl := by simpa using h2.nl, ol := by simpa using h2.ol, nodup := insP_nodup h2.nodup, keys := ?_, look := ?_, down := h2.down, fuse := h2.fuse }⟩
      · intro x hx
        rcases insP_keys hx with hx | hx
        · rw [hx]; show 0 ≤ i ∧ i < (D.burn.2.pages.length : Int)
          rw [DM.burn_pages]; omega
        · exact h2.keys x hx
      · intro j hj
        have hpl : R.step.2.last.length = D.pages.length := by rw [← h2.pages, DM.burn_pages]
        have hj' : j < D.pages.length := by rw [← hpl]; exact hj
        show (insP D.burn.2.cache i p).lookup (j : Int) = if (R.step.2.on.set i.toNat true).getD j false = true then some ((R.step.2.new.set i.toNat p).getD j Pg.zero) else none
        rw [lookup_insP, getD_set_list _ _ _ _ _ (by rw [h2.ol, hpl]; omega), getD_set_list _ _ _ _ _ (by rw [h2.nl, hpl]; omega)]
        by_cases e : (j : Int) = i
        · have e' : j = i.toNat := by omega
          rw [if_pos e, if_pos e', if_pos e', if_pos rfl]
        · have e' : ¬ j = i.toNat := by omega
          rw [if_neg e, if_neg e', if_neg e']
          exact h2.look j hj
  · have hne : D.has i ≠ 0 := hh
    rw [if_pos hne, if_pos hne]
    exact ⟨rfl, h⟩

theorem Rel.read {D : DM} {R : RM} (h : Rel D R) (i : Int) : D.read i = R.read i := by
  unfold DM.read RM.read
  rw [← h.has]
  by_cases hh : D.has i = 0
  · have hz := DM.has_zero hh
    have hne : ¬ (D.has i ≠ 0) := by simpa using hh
    rw [if_neg hne, if_neg hne]
    have hlen : i.toNat < R.last.length := by rw [← h.pages]; omega
    have hl := h.look i.toNat hlen
    rw [show ((i.toNat : Nat) : Int) = i by omega] at hl
    rw [hl]
    unfold DM.page
    rw [h.pages]
    cases R.on.getD i.toNat false <;> simp
  · have hne : D.has i ≠ 0 := hh
    rw [if_pos hne, if_pos hne]

theorem Rel.lasts {D : DM} {R : RM} (h : Rel D R) (i : Int) : D.lasts i = if 0 ≤ i ∧ i < R.last.length then R.last.getD i.toNat Pg.zero else Pg.zero := by
  unfold DM.lasts DM.page
  rw [h.pages]
  by_cases h1 : i < 0 ∨ (R.last.length : Int) ≤ i
  · rw [if_pos h1, if_neg (by omega)]
  · rw [if_neg h1, if_pos (by omega)]

theorem Rel.fuse' {D : DM} {R : RM} (h : Rel D R) (n : Int) : Rel (D.fuse n) (R.fuse n) := by
  refine { h with fuse := fun hd => ?_ }
  by_cases hn : n < 0
  · left; simp [DM.fuse, RM.fuse, hn]
  · right; simp [DM.fuse, RM.fuse, hn]; omega

theorem fo_all (R : RM) (hol : R.on.length = R.last.length) (j : Nat) : (R.fo R.last.length).getD j false = false := by
  simp only [RM.fo, List.getD, List.getElem?_mapIdx]
  cases hj : R.on[j]? with
  | none => rfl
  | some b =>
    have : j < R.on.length := (List.getElem?_eq_some_iff.1 hj).1
    simp; omega

theorem Rel.flush {D : DM} {R : RM} (h : Rel D R) : D.flush.1 = R.flush.1 ∧ Rel D.flush.2 R.flush.2 := by
  unfold DM.flush RM.flush
  cases hd : D.down with
  | true =>
    have e1 : D.burn = (false, D) := by simp [DM.burn, hd]
    rw [e1, ← h.down, hd]
    exact ⟨rfl, h⟩
  | false =>
    obtain ⟨h1, h2⟩ := h.step hd
    rw [← h.down, hd, ← h1]
    simp only [Bool.false_eq_true, if_false]
    cases hb : D.burn.1 with
    | false => exact ⟨rfl, h2⟩
    | true =>
      have hlen : R.last.length = R.step.2.last.length := by rw [RM.step_last]
      rw [hlen, if_pos rfl, if_pos rfl]
      refine ⟨rfl, { pages := ?_, nl := by simpa [RM.fl_len] using h2.nl, ol := by simpa [RM.fl_len, RM.fo_len] using h2.ol, nodup := by simp, keys := by simp, look := ?_, down := h2.down, fuse := h2.fuse }⟩
      · show laid D.pages D.cache = R.step.2.fl R.step.2.last.length
        rw [h.pages]
        apply List.ext_getElem?
        intro j
        simp only [laid, RM.fl, List.getElem?_mapIdx]
        rw [RM.step_last, RM.step_on, RM.step_new]
        cases hj : R.last[j]? with
        | none => rfl
        | some p =>
          have hjl : j < R.last.length := (List.getElem?_eq_some_iff.1 hj).1
          simp only [Option.map_some]
          rw [h.look j hjl]
          cases R.on.getD j false <;> simp [hjl]
      · intro j hj
        show ([] : List (Int × Pg)).lookup (j : Int) = if (R.step.2.fo R.step.2.last.length).getD j false = true then _ else none
        rw [fo_all _ h2.ol j]; simp

/-- The keys, as the document has them. -/
def onK (l : List Bool) (k : Nat) : List Nat := (List.range k).filter fun j => l.getD j false
theorem onK_succ (l : List Bool) (k : Nat) : onK l (k + 1) = if l.getD k false = true then onK l k ++ [k] else onK l k := by
  unfold onK
  rw [List.range_succ, List.filter_append]
  cases h : l.getD k false <;> simp [List.filter_cons, h, List.getD] <;> simpa [List.getD] using h
theorem onK_length (l : List Bool) (k : Nat) (h : k ≤ l.length) : (onK l k).length = cnt l k := by
  induction k with
  | zero => simp [onK, cnt]
  | succ k ih =>
    rw [onK_succ, cnt_succ l k (by omega), ← ih (by omega)]
    cases l.getD k false <;> simp

theorem Rel.perm {D : DM} {R : RM} (h : Rel D R) : (D.cache.map (·.1)).Perm ((onK R.on R.last.length).map fun (n : Nat) => (n : Int)) := by
  refine (List.perm_ext_iff_of_nodup h.nodup ?_).2 fun x => ?_
  · rw [List.nodup_iff_pairwise_ne, List.pairwise_map]
    have : (onK R.on R.last.length).Nodup := (List.nodup_range).filter _
    rw [List.nodup_iff_pairwise_ne] at this
    exact this.imp (fun h e => h (by omega))
  · constructor
    · intro hx
      obtain ⟨y, hy, rfl⟩ := List.mem_map.1 hx
      have hk := h.keys y hy
      rw [h.pages] at hk
      have hl := lookup_mem h.nodup (p := y.2) (i := y.1) hy
      have hlk := h.look y.1.toNat (by omega)
      rw [show ((y.1.toNat : Nat) : Int) = y.1 by omega, hl] at hlk
      refine List.mem_map.2 ⟨y.1.toNat, ?_, by omega⟩
      unfold onK
      rw [List.mem_filter]
      refine ⟨List.mem_range.2 (by omega), ?_⟩
      cases hb : R.on.getD y.1.toNat false with
      | true => rfl
      | false => rw [hb] at hlk; simp at hlk
    · intro hx
      obtain ⟨n, hn, rfl⟩ := List.mem_map.1 hx
      unfold onK at hn
      rw [List.mem_filter] at hn
      have hlk := h.look n (List.mem_range.1 hn.1)
      rw [if_pos (by simpa using hn.2)] at hlk
      suffices hs : ((n : Int), R.new.getD n Pg.zero) ∈ D.cache from List.mem_map.2 ⟨_, hs, rfl⟩
      · skip
        generalize D.cache = l at hlk
        induction l with
        | nil => simp at hlk
        | cons x l ih =>
          obtain ⟨k, q⟩ := x
          simp only [List.lookup] at hlk
          by_cases e : ((n : Int) == k) = true
          · have hk : (n : Int) = k := by simpa using e
            simp only [e] at hlk
            subst hk
            simp only [Option.some.injEq] at hlk
            subst hlk
            simp
          · simp only [Bool.not_eq_true] at e
            simp only [e] at hlk
            exact List.mem_cons_of_mem _ (ih hlk)

theorem Rel.cached {D : DM} {R : RM} (h : Rel D R) : D.cache.length = cnt R.on R.last.length := by
  have := h.perm.length_eq
  simp only [List.length_map] at this
  rw [this, onK_length _ _ (by rw [h.ol]; exact Nat.le_refl _)]

theorem Rel.sorted {D : DM} {R : RM} (h : Rel D R) : sortK (D.cache.map (·.1)) = (onK R.on R.last.length).map fun (n : Nat) => (n : Int) := by
  unfold sortK
  have e : (D.cache.map (·.1)).mergeSort (fun x y => decide (x ≤ y)) = ((onK R.on R.last.length).map fun (n : Nat) => (n : Int)).mergeSort (fun x y => decide (x ≤ y)) := mergeSort_of_perm_i h.perm
  rw [e]
  apply List.mergeSort_of_pairwise
  rw [List.pairwise_map]
  have hp : (List.range R.last.length).Pairwise (· < ·) := List.pairwise_lt_range
  exact (hp.filter _).imp (fun h => by simp; omega)

theorem crash_upto {D : DM} {R : RM} (h : Rel D R) (ch : List UInt8) : ∀ k, k ≤ R.last.length → crashGo D.cache D.pages ((onK R.on k).map fun (n : Nat) => (n : Int)) ch = R.cr ch k := by
  intro k
  induction k with
  | zero =>
    intro _
    rw [RM.cr_zero, ← h.pages]
    simp [onK, crashGo]
  | succ k ih =>
    intro hk
    have ih' := ih (by omega)
    have hkl : k < R.last.length := by omega
    rw [onK_succ]
    cases hb : R.on.getD k false with
    | false =>
      rw [if_neg (by simp), ih', RM.cr_off R ch k hb]
    | true =>
      rw [if_pos rfl, List.map_append, List.map_cons, List.map_nil, crashGo_snoc, ih', ← RM.cr_on R ch k hkl hb]
      have hlen : ((onK R.on k).map fun (n : Nat) => (n : Int)).length = cnt R.on k := by rw [List.length_map, onK_length _ _ (by rw [h.ol]; omega)]
      have hlk := h.look k hkl
      rw [if_pos hb] at hlk
      have hget : (R.cr ch k).getD k Pg.zero = R.last[k] := by
        have hl : k < (R.cr ch k).length := by rw [RM.cr_len]; exact hkl
        simp only [List.getD, List.getElem?_eq_getElem hl, Option.getD_some]
        exact RM.cr_get R ch k hkl
      by_cases hc : cnt R.on k < ch.length
      · rw [dif_pos (by rw [hlen]; exact hc)]
        unfold keepOne RM.kp
        rw [dif_pos hc, Int.toNat_natCast, hlk, Option.getD_some, hget]
        simp only [hlen]
      · rw [dif_neg (by rw [hlen]; exact hc)]
        unfold RM.kp
        rw [dif_neg hc, mix_zero]
        have hl : k < (R.cr ch k).length := by rw [RM.cr_len]; exact hkl
        rw [← RM.cr_get R ch k hkl, List.set_getElem_self]

theorem Rel.crash {D : DM} {R : RM} (h : Rel D R) (ch : List UInt8) : Rel (D.crash ch) (R.crash ch) := by
  have hp : (D.crash ch).pages = (R.crash ch).last := by
    show crashGo D.cache D.pages (sortK (D.cache.map (·.1))) ch = R.cr ch R.last.length
    rw [h.sorted]; exact crash_upto h ch _ (Nat.le_refl _)
  refine { pages := hp, nl := ?_, ol := ?_, nodup := ?_, keys := ?_, look := ?_, down := rfl, fuse := fun _ => .inl ⟨rfl, rfl⟩ }
  · simpa [RM.crash, RM.cr_len] using h.nl
  · simpa [RM.crash, RM.cr_len, RM.fo_len] using h.ol
  · simp [DM.crash]
  · simp [DM.crash]
  · intro j hj
    show ([] : List (Int × Pg)).lookup (j : Int) = if (R.fo R.last.length).getD j false = true then _ else none
    rw [fo_all R h.ol j]; simp

theorem Rel.start (n : Nat) : Rel ⟨false, false, 0, List.replicate n Pg.zero, []⟩ ⟨List.replicate n Pg.zero, List.replicate n Pg.zero, List.replicate n false, -1, false⟩ where
  pages := rfl
  nl := by simp
  ol := by simp
  nodup := by simp
  keys := by simp
  look := fun j hj => by
    have : (List.replicate n false).getD j false = false := by
      simp only [List.getD, List.getElem?_replicate]; split <;> rfl
    simp only [this]; simp
  down := rfl
  fuse := fun _ => .inl ⟨rfl, rfl⟩
end Go.Proofs
