/- The disk (layer 3): what each of its functions does, as a function on a model of the disk. -/
import Derived.Test.YtdikkkappcpdcaaMap
import Derived.Test.YtdikkkappcpdcaaProg
import Derived.Stop.BytesEq
import Derived.Lib.Hide
import Derived.StillTailTactics
import Derived.Test.YtdikkkappcpdcaaOps
namespace Go.Proofs
open Go Go.RowKit Go.Nx

abbrev pv (p : Pg) : Value := .agg (cl p).toArray
abbrev ptr (b : Nat) : Value := .pointer (some ⟨b, 0, none⟩)

theorem pgTy : PgTy Try.prog 31 :=
  ⟨⟨_, Try.underlying31, Try.underlying5, by kernel_rfl⟩, Try.eqGuardType31, by rw [cl_zero]; kernel_rfl⟩

/-- A disk. -/
structure DM where
  on : Bool
  down : Bool
  left : Int
  pages : List Pg
  cache : List (Int × Pg)

def pvs (l : List (Int × Pg)) : List (Int × Value) := l.map fun x => (x.1, pv x.2)

/-- The disk D lies at block d, its pages in block pb, its cache in block cb. -/
structure DiskAt (w : World) (d pb cb : Nat) (D : DM) : Prop where
  dsk : Blk w d 92 [.bool D.on, .bool D.down, .int .i64 D.left, .slice (some ⟨pb, 0, none⟩) D.pages.length D.pages.length, .map (some cb)]
  pgs : Blk w pb 31 (flat D.pages)
  map : MapIs w cb (pvs D.cache)
  ne1 : d ≠ pb
  ne2 : d ≠ cb
  ne3 : pb ≠ cb
  keys : ∀ x ∈ D.cache, 0 ≤ x.1 ∧ x.1 < D.pages.length
  left : D.left ≤ 9223372036854775807
  ok : D.down = false → D.on = true → 0 ≤ D.left
  len : D.pages.length ≤ 512

theorem DiskAt.keep {S : List Nat} {w w' : World} {d pb cb : Nat} {D : DM} (h : DiskAt w d pb cb D) (hf : Fr S w w') (h1 : d ∉ S) (h2 : pb ∉ S) (h3 : cb ∉ S) : DiskAt w' d pb cb D :=
  { h with dsk := h.dsk.keep hf h1, pgs := h.pgs.keep hf h2, map := h.map.keep hf h3 }

theorem DiskAt.c0 {w : World} {d pb cb : Nat} {D : DM} (h : DiskAt w d pb cb D) : w.cell? ⟨d, 0, none⟩ = some (.bool D.on) := h.dsk.cell 0
theorem DiskAt.c1 {w : World} {d pb cb : Nat} {D : DM} (h : DiskAt w d pb cb D) : w.cell? ⟨d, 1, none⟩ = some (.bool D.down) := h.dsk.cell 1
theorem DiskAt.c2 {w : World} {d pb cb : Nat} {D : DM} (h : DiskAt w d pb cb D) : w.cell? ⟨d, 2, none⟩ = some (.int .i64 D.left) := h.dsk.cell 2
theorem DiskAt.c3 {w : World} {d pb cb : Nat} {D : DM} (h : DiskAt w d pb cb D) : w.cell? ⟨d, 3, none⟩ = some (.slice (some ⟨pb, 0, none⟩) D.pages.length D.pages.length) := h.dsk.cell 3
theorem DiskAt.c4 {w : World} {d pb cb : Nat} {D : DM} (h : DiskAt w d pb cb D) : w.cell? ⟨d, 4, none⟩ = some (.map (some cb)) := h.dsk.cell 4

def DM.burn (D : DM) : Bool × DM :=
  if D.down then (false, D) else if D.on then (!decide (D.left - 1 < 0), { D with left := D.left - 1, down := decide (D.left - 1 < 0) }) else (true, D)

theorem burn_any (w : World) (d pb cb : Nat) (D : DM) (h : DiskAt w d pb cb D) :
    Calls Try.prog 49 #[ptr d] w fun e w' => e = .returned (.bool D.burn.1) ∧ DiskAt w' d pb cb D.burn.2 ∧ Fr [d] w w' := by
  have c0 := h.c0
  have c1 := h.c1
  have c2 := h.c2
  have f1 := h.dsk.frozen 1
  have f2 := h.dsk.frozen 2
  cases hd : D.down with
  | true =>
    have e : D.burn = (false, D) := by simp [DM.burn, hd]
    rw [e]
    rw [hd] at c1
    have H := Lib.hid h; clear h hd e
    go_enter Try.func49, Try.ntmps49
    go_wp2
    go_ret
    exact ⟨rfl, H.out, .refl _ _⟩
  | false =>
    cases ho : D.on with
    | false =>
      have e : D.burn = (true, D) := by simp [DM.burn, hd, ho]
      rw [e]
      rw [hd] at c1
      rw [ho] at c0
      have H := Lib.hid h; clear h hd e ho
      go_enter Try.func49, Try.ntmps49
      go_wp2
      go_ret
      exact ⟨rfl, H.out, .refl _ _⟩
    | true =>
      have e : D.burn = (!decide (D.left - 1 < 0), { D with left := D.left - 1, down := decide (D.left - 1 < 0) }) := by simp [DM.burn, hd, ho]
      rw [e]
      rw [hd] at c1
      rw [ho] at c0
      have h0 := h.ok hd ho
      have h1 := h.left
      have hD : DiskAt ((w.setCell ⟨d, 2, none⟩ (.int .i64 (D.left - 1))).setCell ⟨d, 1, none⟩ (.bool (decide (D.left - 1 < 0)))) d pb cb { D with left := D.left - 1, down := decide (D.left - 1 < 0) } :=
        { h with
          dsk := (h.dsk.setCell_same 2 _).setCell_same 1 _
          pgs := (h.pgs.setCell_other (by exact h.ne1.symm) _).setCell_other (by exact h.ne1.symm) _
          map := h.map.keep (((Fr.refl [d] w).setCell _ _ (by simp)).setCell _ _ (by simp)) (by simpa using h.ne2.symm)
          left := by simp only; omega
          ok := fun h1 _ => by simpa using h1 }
      have H := Lib.hid hD; clear h hD hd ho e
      go_enter Try.func49, Try.ntmps49
      go_wp2
      go_ret
      exact ⟨rfl, H.out, ((Fr.refl [d] w).setCell _ _ (by simp)).setCell _ _ (by simp)⟩

theorem down_any (w : World) (d : Nat) (b : Bool) (h : w.cell? ⟨d, 1, none⟩ = some (.bool b)) :
    Calls Try.prog 19 #[ptr d] w fun e w' => e = .returned (.bool b) ∧ w = w' := by
  go_enter Try.func19, Try.ntmps19
  go_wp2
  go_ret
  exact ⟨rfl, rfl⟩

def DM.has (D : DM) (i : Int) : Int := if D.down then 5 else if i < 0 ∨ D.pages.length ≤ i then 22 else 0

theorem has_any (w : World) (d pb cb : Nat) (D : DM) (h : DiskAt w d pb cb D) (i : Int) :
    Calls Try.prog 48 #[ptr d, .int .i64 i] w fun e w' => e = .returned (.int .i64 (D.has i)) ∧ w = w' := by
  have c1 := h.c1
  have c3 := h.c3
  cases hd : D.down with
  | true =>
    have e : D.has i = 5 := by simp [DM.has, hd]
    rw [e]
    rw [hd] at c1
    clear h hd e
    go_enter Try.func48, Try.ntmps48
    go_wp2_with (go_at_call 19; refine (down_any _ _ _ c1).mono ?_; rintro e w' ⟨rfl, rfl⟩)
    go_ret
    exact ⟨rfl, rfl⟩
  | false =>
    rw [hd] at c1
    by_cases h1 : i < 0
    · have e : D.has i = 22 := by simp [DM.has, hd, h1]
      rw [e]
      clear h hd e
      go_enter Try.func48, Try.ntmps48
      go_wp2_with (go_at_call 19; refine (down_any _ _ _ c1).mono ?_; rintro e w' ⟨rfl, rfl⟩)
      go_ret
      exact ⟨rfl, rfl⟩
    · by_cases h2 : (D.pages.length : Int) ≤ i
      · have e : D.has i = 22 := by simp [DM.has, hd, h2]
        rw [e]
        clear h hd e
        go_enter Try.func48, Try.ntmps48
        go_wp2_with (go_at_call 19; refine (down_any _ _ _ c1).mono ?_; rintro e w' ⟨rfl, rfl⟩)
        go_ret
        exact ⟨rfl, rfl⟩
      · have e : D.has i = 0 := by simp [DM.has, hd, h1, h2]
        rw [e]
        clear h hd e
        go_enter Try.func48, Try.ntmps48
        go_wp2_with (go_at_call 19; refine (down_any _ _ _ c1).mono ?_; rintro e w' ⟨rfl, rfl⟩)
        go_ret
        exact ⟨rfl, rfl⟩

/-- The cache with page i at p. -/
def insP (l : List (Int × Pg)) (i : Int) (p : Pg) : List (Int × Pg) :=
  if i ∈ l.map (·.1) then l.map (fun x => if x.1 = i then (i, p) else x) else l ++ [(i, p)]

theorem pvs_ins (l : List (Int × Pg)) (i : Int) (p : Pg) (hn : ((pvs l).map (·.1)).Nodup) : ins (pvs l) i (pv p) = pvs (insP l i p) := by
  have hk : (pvs l).map (·.1) = l.map (·.1) := by simp [pvs]
  unfold ins insP
  cases hs : seek i (pvs l) 0 with
  | none =>
    have := seek_none.1 hs
    rw [hk] at this
    simp [this, pvs]
  | some x =>
    obtain ⟨j, v⟩ := x
    have h1 := (seek_some hs).2
    simp only [Nat.sub_zero] at h1
    have hm : i ∈ l.map (·.1) := by
      rw [← hk]; exact List.mem_map.2 ⟨_, List.mem_of_getElem? h1, rfl⟩
    simp only [if_pos hm]
    have hjl : j < (pvs l).length := by
      rcases Nat.lt_or_ge j (pvs l).length with h' | h'
      · exact h'
      · rw [List.getElem?_eq_none h'] at h1; cases h1
    apply List.ext_getElem?
    intro m
    have hjl' : j < l.length := by simpa [pvs] using hjl
    simp only [pvs, List.getElem?_set, List.length_map, List.getElem?_map] at h1 ⊢
    by_cases e : j = m
    · subst e
      rw [List.getElem?_eq_getElem hjl'] at h1 ⊢
      simp only [Option.map_some, Option.some.injEq, Prod.mk.injEq] at h1
      simp [h1.1, hjl']
    · simp only [if_neg e]
      cases hx : l[m]? with
      | none => rfl
      | some x =>
        simp only [Option.map_some, Option.some.injEq]
        split
        · rename_i hxi
          exfalso
          rw [List.nodup_iff_pairwise_ne, List.pairwise_map] at hn
          have hp := List.pairwise_iff_getElem.1 hn
          have hml : m < (pvs l).length := by
            rcases Nat.lt_or_ge m l.length with h' | h'
            · simpa [pvs] using h'
            · rw [List.getElem?_eq_none h'] at hx; cases hx
          have hml' : m < l.length := by simpa [pvs] using hml
          have e1 : (pvs l)[m].1 = i := by
            rw [List.getElem?_eq_getElem hml'] at hx
            simp only [Option.some.injEq] at hx
            simp [pvs, hx, hxi]
          have e2 : (pvs l)[j].1 = i := by
            rw [List.getElem?_eq_getElem hjl'] at h1
            simp only [Option.map_some, Option.some.injEq, Prod.mk.injEq] at h1
            simp [pvs, h1.1]
          rcases Nat.lt_or_ge j m with h' | h'
          · exact hp j m hjl hml h' (e2.trans e1.symm)
          · exact hp m j hml hjl (by omega) (e1.trans e2.symm)
        · rfl

theorem insP_keys {l : List (Int × Pg)} {i : Int} {p : Pg} {x : Int × Pg} (h : x ∈ insP l i p) : x.1 = i ∨ x ∈ l := by
  unfold insP at h
  split at h
  · simp only [List.mem_map] at h
    obtain ⟨y, hy, rfl⟩ := h
    split
    · exact .inl rfl
    · exact .inr hy
  · simp only [List.mem_append, List.mem_singleton] at h
    rcases h with h | rfl
    · exact .inr h
    · exact .inl rfl

def DM.write (D : DM) (i : Int) (p : Pg) : Int × DM :=
  if D.has i ≠ 0 then (D.has i, D) else if D.burn.1 then (0, { D.burn.2 with cache := insP D.burn.2.cache i p }) else (5, D.burn.2)

theorem DM.burn_pages (D : DM) : D.burn.2.pages = D.pages := by
  unfold DM.burn; split
  · rfl
  · split <;> rfl
theorem DM.burn_cache (D : DM) : D.burn.2.cache = D.cache := by
  unfold DM.burn; split
  · rfl
  · split <;> rfl
theorem DM.has_zero {D : DM} {i : Int} (h : D.has i = 0) : D.down = false ∧ 0 ≤ i ∧ i < D.pages.length := by
  unfold DM.has at h
  split at h
  · omega
  · rename_i h1
    split at h
    · omega
    · exact ⟨by simpa using h1, by omega⟩

set_option maxRecDepth 100000 in
set_option maxHeartbeats 400000 in
theorem write_any (w : World) (d pb cb : Nat) (D : DM) (h : DiskAt w d pb cb D) (i : Int) (p : Pg) :
    Calls Try.prog 13 #[ptr d, .int .i64 i, pv p] w fun e w' => e = .returned (.int .i64 (D.write i p).1) ∧ DiskAt w' d pb cb (D.write i p).2 ∧ Fr [d, cb] w w' := by
  have h0 : DiskAt (w.alloc (.cells (cl p).toArray 31)) d pb cb D := h.keep (S := []) ((Fr.refl _ _).alloc _) (by simp) (by simp) (by simp)
  have hw : w.heap.size < (w.alloc (.cells (cl p).toArray 31)).heap.size := by simp
  have hpg := Blk.new w 31 (cl p)
  have hfr : Fr [] w (w.alloc (.cells (cl p).toArray 31)) := (Fr.refl _ _).alloc _
  have hdl := h.dsk.lt
  have hcl := h.map.lt
  by_cases hh : D.has i = 0
  · have hb := burn_any _ d pb cb D h0
    cases hB : D.burn.1 with
    | false =>
      have e : D.write i p = (5, D.burn.2) := by simp [DM.write, hh, hB]
      rw [e]
      rw [hB] at hb
      have H0 := Lib.hid h0; clear h0
      have HB := Lib.hid hb; clear hb
      have HH := Lib.hid hh; clear hh
      clear h e hB
      have HF := Lib.hid hfr; clear hfr
      go_enter Try.func13, Try.ntmps13
      go_wp2_with (first
        | (go_at_call 48; refine (has_any _ _ _ _ D H0.out i).mono ?_; rintro e w' ⟨rfl, rfl⟩; rw [HH.out])
        | (go_at_call 49; refine HB.out.mono ?_; rintro e w1 ⟨rfl, hD1, hf1⟩))
      go_ret
      exact ⟨rfl, hD1, HF.out.trans hf1 (by simp) (by simp)⟩
    | true =>
      have e : D.write i p = (0, { D.burn.2 with cache := insP D.burn.2.cache i p }) := by simp [DM.write, hh, hB]
      rw [e]
      rw [hB] at hb
      have H0 := Lib.hid h0; clear h0
      have HB := Lib.hid hb; clear hb
      have HH := Lib.hid hh; clear hh
      clear h e hB
      have HF := Lib.hid hfr; clear hfr
      go_enter Try.func13, Try.ntmps13
      go_wp2_with (first
        | (go_at_call 48; refine (has_any _ _ _ _ D H0.out i).mono ?_; rintro e w' ⟨rfl, rfl⟩; rw [HH.out])
        | (go_at_call 49; refine HB.out.mono ?_; rintro e w1 ⟨rfl, hD1, hf1⟩))
      have c4 := hD1.c4
      have HD := Lib.hid hD1; clear hD1
      have Hf := Lib.hid hf1; clear hf1
      have hld : (Instr.loadAt 31 (ptr w.heap.size)).run Try.prog w1.drew = .ok (pv p) w1.drew := run_load_pg pgTy (hpg.keep Hf.out (by simp; omega)).drew.range1
      obtain ⟨ob, hrun, hmap⟩ := run_mapUpdate (P := Try.prog) (w := w1.drew) (HD.out.map.keep (S := []) (Fr.refl _ _).drew (by simp)) 29 _ _ Try.underlying29 Try.underlying3 i (pv p)
      refine wp_region_still_tail 6 (by kernel_rfl) (by kernel_rfl) ?_
      simp only [List.take_succ_cons, List.take_zero, List.drop_succ_cons, List.drop_zero, World.drew_eq]
      repeat (first | ((with_reducible refine wpStill_load hld ?_ ?_ ?_); rfl; rfl) | still_step)
      refine wpStill_nil ?_
      refine wpList_mapUpdate hrun rfl rfl rfl rfl ?_
      clear hld hrun
      go_wp2
      go_ret
      have hn := HD.out.map.nodup
      rw [pvs_ins _ _ _ hn] at hmap
      have hin := DM.has_zero HH.out
      have hfb : Fr [cb] w1 (w1.drew.setBlk cb ob) := (Fr.refl _ _).drew.setBlk _ _ (by simp)
      refine ⟨rfl, { HD.out with dsk := HD.out.dsk.keep hfb (by simpa using HD.out.ne2), pgs := HD.out.pgs.keep hfb (by simpa using HD.out.ne3), map := hmap, keys := ?_ }, ?_⟩
      · intro x hx
        rcases insP_keys hx with hx | hx
        · rw [hx]; show 0 ≤ i ∧ i < (D.burn.2.pages.length : Int)
          rw [DM.burn_pages]; omega
        · exact HD.out.keys x hx
      · exact (HF.out.trans Hf.out (S := [d, cb]) (by simp) (by simp)).trans hfb (by simp) (by simp)
  · have e : D.write i p = (D.has i, D) := by simp [DM.write, hh]
    rw [e]
    have hne : (D.has i != 0) = true := by simpa using hh
    have H0 := Lib.hid h0; clear h0
    have HF := Lib.hid hfr; clear hfr
    clear h e hh
    go_enter Try.func13, Try.ntmps13
    go_wp2_with (go_at_call 48; refine (has_any _ _ _ _ D H0.out i).mono ?_; rintro e w' ⟨rfl, rfl⟩)
    go_ret
    exact ⟨rfl, H0.out, HF.out.mono (by simp)⟩
end Go.Proofs
