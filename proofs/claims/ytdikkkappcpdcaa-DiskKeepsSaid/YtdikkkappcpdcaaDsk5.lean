/- The disk (layer 3): Crash. -/
import Derived.Test.YtdikkkappcpdcaaDsk4
import Derived.Test.YtdikkkappcpdcaaSrt
namespace Go.Proofs
open Go Go.RowKit Go.Nx
set_option maxRecDepth 100000
set_option linter.unusedVariables false

/-- v is a slice of the bytes l. -/
def BytesAt (w : World) (v : Value) (l : List UInt8) : Prop :=
  ∃ a cap, v = .slice a l.length cap ∧ (l ≠ [] → ∃ b off, a = some ⟨b, off, none⟩ ∧ b < w.heap.size ∧ ∀ j (h : j < l.length), w.cell? ⟨b, off + j, none⟩ = some (bv l[j]))

/-- One page that a crash keeps a beginning of. -/
def keepOne (c : List (Int × Pg)) (ps : List Pg) (k : Int) (b : UInt8) : List Pg :=
  ps.set k.toNat (Pg.mix ((c.lookup k).getD Pg.zero) (ps.getD k.toNat Pg.zero) (b.toNat % 65))

def crashGo (c : List (Int × Pg)) : List Pg → List Int → List UInt8 → List Pg
  | ps, k :: ks, b :: bs => crashGo c (keepOne c ps k b) ks bs
  | ps, _, _ => ps

theorem crashGo_length (c : List (Int × Pg)) : ∀ (ks : List Int) (bs : List UInt8) (ps : List Pg), (crashGo c ps ks bs).length = ps.length
  | [], _, _ => by simp [crashGo]
  | _ :: _, [], _ => by simp [crashGo]
  | k :: ks, b :: bs, ps => by rw [crashGo, crashGo_length c ks bs]; simp [keepOne]

theorem crashGo_snoc (c : List (Int × Pg)) (k : Int) : ∀ (ks : List Int) (bs : List UInt8) (ps : List Pg),
    crashGo c ps (ks ++ [k]) bs = if h : ks.length < bs.length then keepOne c (crashGo c ps ks bs) k bs[ks.length] else crashGo c ps ks bs
  | [], [], ps => by simp [crashGo]
  | [], b :: bs, ps => by simp [crashGo]
  | _ :: _, [], ps => by simp [crashGo]
  | x :: ks, b :: bs, ps => by
    simp only [List.cons_append, crashGo, crashGo_snoc c k ks bs, List.length_cons, Nat.add_lt_add_iff_right, List.getElem_cons_succ]

def DM.crash (D : DM) (ch : List UInt8) : DM :=
  { on := false, down := false, left := 0, pages := crashGo D.cache D.pages (sortK (D.cache.map (·.1))) ch, cache := [] }

/-- What holds at the head of Crash's loop, n of the keys ks done. -/
def CrashInv (w : World) (d pb cb : Nat) (D : DM) (ks : List Int) (v vc : Value) (ch : List UInt8) (k : Nat) (i : Value) (wr : World) : Prop :=
  ∃ n : Nat, i = .int .i64 n ∧ k + n = ks.length ∧ DiskAt wr d pb cb { D with pages := crashGo D.cache D.pages (ks.take n) ch } ∧ Fr [pb] w wr

theorem lookup_some {l : List (Int × Pg)} {i : Int} (h : i ∈ l.map (·.1)) : ∃ p, l.lookup i = some p := by
  induction l with
  | nil => simp at h
  | cons x l ih =>
    obtain ⟨k, p⟩ := x
    by_cases e : (i == k) = true
    · exact ⟨p, by simp [List.lookup, e]⟩
    · simp only [Bool.not_eq_true] at e
      have hne : i ≠ k := by simpa using e
      simp only [List.map_cons, List.mem_cons, hne, false_or] at h
      obtain ⟨q, hq⟩ := ih h
      exact ⟨q, by simp [List.lookup, e, hq]⟩

set_option maxHeartbeats 1600000 in
theorem crash_any (w : World) (d pb cb : Nat) (D : DM) (h : DiskAt w d pb cb D) (vc : Value) (ch : List UInt8) (hch : BytesAt w vc ch) (hsep : ∀ b off cap, vc = .slice (some ⟨b, off, none⟩) ch.length cap → ch ≠ [] → b ≠ d ∧ b ≠ pb ∧ b ≠ cb) :
    Calls Try.prog 20 #[ptr d, vc] w fun e w' => e = .returned (.tuple #[]) ∧ DiskAt w' d pb cb (D.crash ch) ∧ Fr [d, pb, cb] w w' := by
  obtain ⟨va, vcap, rfl, hcc⟩ := hch
  have hd0 := h.dsk.lt
  have hp0 := h.pgs.lt
  have hc0 := h.map.lt
  have c4 := h.c4
  have hky := keys_any w (some cb)
  have hfr1 : Fr [] w (w.alloc (.cells #[.map (some cb)] 29)) := (Fr.refl _ _).alloc _
  have h1 : DiskAt (w.alloc (.cells #[.map (some cb)] 29)) d pb cb D := h.keep hfr1 (by simp) (by simp) (by simp)
  have hkk : (pvs D.cache).map (·.1) = D.cache.map (·.1) := pvs_keys _
  have hlen : D.cache.length ≤ D.pages.length := by
    have hn : (D.cache.map (·.1)).Nodup := by have := h.map.nodup; rwa [pvs_keys] at this
    have := List.Nodup.length_le_of_subset (l₂ := (List.range D.pages.length).map fun (n : Nat) => (n : Int)) hn (fun k hk => by
      obtain ⟨x, hx, rfl⟩ := List.mem_map.1 hk
      have := h.keys x hx
      exact List.mem_map.2 ⟨x.1.toNat, by simp; omega, by omega⟩)
    simpa using this
  have hso := sorted_any _ cb w.heap.size (pvs D.cache) h1.map (Blk.new w 29 [.map (some cb)]) (fun x hx => by
    obtain ⟨y, hy, rfl⟩ := mem_pvs hx
    have := h.keys y hy
    have := h.len
    simp only; omega) (by have := h.len; simp [pvs]; omega)
  rw [hkk] at hso
  have hperm : (sortK (D.cache.map (·.1))).Perm (D.cache.map (·.1)) := List.mergeSort_perm _ _
  generalize hks : sortK (D.cache.map (·.1)) = ks at *
  have hcr : D.crash ch = { on := false, down := false, left := 0, pages := crashGo D.cache D.pages ks ch, cache := [] } := by simp [DM.crash, hks]
  rw [hcr]
  have hsz : (w.alloc (.cells #[.map (some cb)] 29)).heap.size = w.heap.size + 1 := by simp
  rw [hsz] at hso
  have hkl : ks.length ≤ 512 := by have := hperm.length_eq; simp at this; have := h.len; omega
  have hkyH := Lib.hid hky
  have hsoH := Lib.hid hso
  have hH := Lib.hid h
  have hfr1H := Lib.hid hfr1
  have h1H := Lib.hid h1
  have hksH := Lib.hid hks
  have hccH := Lib.hid hcc
  have hpermH := Lib.hid hperm
  have hklH := Lib.hid hkl
  clear hky hso h hfr1 h1 hks hcc hperm hkl
  clear hcr hkk hsz hlen
  go_enter Try.func20, Try.ntmps20
  go_wp2_with (first
    | (go_at_call 51; refine (hkyH.out).mono ?_; rintro e w' ⟨rfl, rfl⟩)
    | (go_at_call 50; refine (hsoH.out).mono ?_; rintro e w' ⟨v, rfl, ⟨sa, scap, rfl, hv⟩, hfv⟩; have hvH := Lib.hid hv; clear hv; have hfvH := Lib.hid hfv; clear hfv))
  go_loopg [16] ks.length (fun k i wr => CrashInv w' d pb cb D ks (.slice sa ks.length scap) (.slice va ch.length vcap) ch k i wr)
  case atStart =>
    refine ⟨0, rfl, by omega, ?_, .refl _ _⟩
    have := h1H.out.keep hfvH.out (by simp) (by simp) (by simp)
    simpa [crashGo] using this
  case round =>
    obtain ⟨n, rfl, hn, hDr, hFr⟩ := hrel
    have hkb := hklH.out
    by_cases hlt : n < ks.length
    · have hne : ks ≠ [] := by intro e; rw [e] at hlt; simp at hlt
      obtain ⟨g, rfl, hg1, hg2, hg3⟩ := hvH.out hne
      have hw' := hfvH.out.size
      have hsz : (w.alloc (.cells #[.map (some cb)] 29)).heap.size = w.heap.size + 1 := by simp
      rw [hsz] at hw'
      have hcell : wr.cell? ⟨g, n, none⟩ = some (.int .i64 ks[n]) := (hFr.cell hg2 (by simp; omega)).trans (hg3 n hlt)
      have hkm : ks[n] ∈ D.cache.map (·.1) := hpermH.out.mem_iff.1 (List.getElem_mem hlt)
      obtain ⟨p, hp⟩ := lookup_some hkm
      have hkr : 0 ≤ ks[n] ∧ ks[n] < D.pages.length := by
        obtain ⟨x, hx, he⟩ := List.mem_map.1 hkm
        rw [← he]; exact hH.out.keys x hx
      have hcl : (crashGo D.cache D.pages (ks.take n) ch).length = D.pages.length := crashGo_length _ _ _ _
      have htk : ks.take (n + 1) = ks.take n ++ [ks[n]] := (List.take_succ_eq_append_getElem hlt)
      have htl : (ks.take n).length = n := by simp; omega
      have hsnoc := crashGo_snoc D.cache ks[n] (ks.take n) ch D.pages
      rw [← htk, htl] at hsnoc
      generalize ks[n] = key at *
      by_cases hc : n < ch.length
      · have hcne : ch ≠ [] := by intro e; rw [e] at hc; simp at hc
        obtain ⟨cbk, coff, rfl, hcb1, hcb2⟩ := hccH.out hcne
        obtain ⟨hs1, hs2, hs3⟩ := hsep cbk coff vcap rfl hcne
        rw [dif_pos hc] at hsnoc
        have hfw : Fr [pb] w wr := (hfr1H.out.trans hfvH.out (S := [pb]) (by simp) (by simp)).trans hFr (by simp) (by simp)
        have hbyte : ch[n].toNat ≤ 255 := by have := ch[n].toNat_lt; omega
        have hcb := hcb2 n hc
        generalize ch[n] = byte at *
        have hlk := run_lookup (P := Try.prog) hDr.map 29 _ _ Try.underlying29 Try.underlying3 _ pgTy.zero key false
        rw [get_pvs] at hlk
        simp only [hp, Option.map_some, Option.getD_some, Bool.false_eq_true, if_false] at hlk
        have hal := run_alloc_pg (P := Try.prog) pgTy wr
        have hszr := hDr.dsk.lt
        have hszp := hDr.pgs.lt
        have hszc := hDr.map.lt
        have hszw := hfw.size
        obtain ⟨w2, hst, hb2, hf2, hs2'⟩ := store_box pgTy (Blk.new wr 31 (cl Pg.zero)) p
        have hF2 : Fr [] wr w2.drew := (((Fr.refl [] wr).alloc zbox).trans hf2 (S := []) (by simp) (by simp)).drew
        have hD2 := hDr.keep hF2 (by simp) (by simp) (by simp)
        have c3 := hD2.c3
        have c4r := hDr.c4
        simp only [hcl] at c3
        have hix := run_index_row (P := Try.prog) (S := 23) Try.underlying23 pgTy.size pb D.pages.length D.pages.length key hkr.1 hkr.2 w2.drew
        have hcb3 : w2.drew.cell? ⟨cbk, coff + n, none⟩ = some (bv byte) := (hF2.cell (by simp; omega) (by simp)).trans ((hfw.cell hcb1 (by simpa using hs2)).trans hcb)
        unfold bv at hcb3
        have hsl1 := run_slice_pg (P := Try.prog) pgTy pb (key.toNat * 64) ((byte.toNat % 65 : Nat) : Int) (by omega) (by omega) w2.drew
        have hm65 : (IntKind.i64.wrap (byte.toNat : Int)).tmod 65 = ((byte.toNat % 65 : Nat) : Int) := by
          rw [IntWalk.i64_in _ (by omega), Int.tmod_eq_emod_of_nonneg (by omega)]; omega
        rw [Int.toNat_natCast, ← hm65] at hsl1
        clear hm65
        obtain ⟨w3, hcp, hb3, hf3, hs3'⟩ := copy_row (P := Try.prog) (ty := 3) Try.underlying22 (by kernel_rfl) hD2.pgs hb2.drew key.toNat (by rw [hcl]; omega) (byte.toNat % 65) 64 64 (by omega)
        have hF3 : Fr [pb] wr w3 := hF2.trans hf3 (by simp) (by simp)
        have hfin : CrashInv w' d pb cb D ks (.slice (some ⟨g, 0, none⟩) ks.length scap) (.slice (some ⟨cbk, coff, none⟩) ch.length vcap) ch (gk - 1) (.int .i64 ((n : Int) + 1)) w3 ∧ gk - 1 < gk := by
          refine ⟨⟨n + 1, rfl, by omega, ?_, hFr.trans hF3 (by simp) (by simp)⟩, by omega⟩
          rw [hsnoc]
          have hge : (crashGo D.cache D.pages (ks.take n) ch).getD key.toNat Pg.zero = (crashGo D.cache D.pages (ks.take n) ch)[key.toNat]'(by rw [hcl]; omega) := by
            simp [List.getD, List.getElem?_eq_getElem (show key.toNat < (crashGo D.cache D.pages (ks.take n) ch).length by rw [hcl]; omega)]
          unfold keepOne
          rw [hp, Option.getD_some, hge]
          refine { dsk := ?_, pgs := hb3, map := hD2.map.keep hf3 (by simpa using hDr.ne3.symm), ne1 := hDr.ne1, ne2 := hDr.ne2, ne3 := hDr.ne3, keys := ?_, left := hDr.left, ok := hDr.ok, len := ?_ }
          · have := hD2.dsk.keep hf3 (by simpa using hDr.ne1)
            simpa using this
          · simpa using hDr.keys
          · simpa using hDr.len
        have hsl2 := run_slice_pg_all (P := Try.prog) pgTy wr.heap.size 0 w2.drew
        have hlkH := Lib.hid hlk
        have halH := Lib.hid hal
        have hstH := Lib.hid hst
        have hixH := Lib.hid hix
        have hsl1H := Lib.hid hsl1
        have hsl2H := Lib.hid hsl2
        have hcpH := Lib.hid hcp
        have hfinH := Lib.hid hfin
        clear hlk hal hst hix hsl1 hsl2 hcp hfin
        clear hcb hs2' hcb2 hcb1 hg3 hcl htk htl hkm hkr hne hcne hDr hFr hfw hsnoc hb2 hf2 hF2 hD2 hp hb3 hf3 hs3' hF3
        go_wp2_with (first
          | ((with_reducible refine wpList_lookup (hlkH.out) ?_ ?_ ?_ ?_); rfl; rfl; rfl)
          | ((with_reducible refine wpList_alloc (halH.out) ?_ ?_); rfl)
          | ((with_reducible refine wpList_store (hstH.out) ?_ ?_ ?_ ?_); rfl; rfl; rfl))
        refine wp_region_still_tail 14 (by kernel_rfl) (by kernel_rfl) ?_
        simp only [List.take_succ_cons, List.take_zero, List.drop_succ_cons, List.drop_zero, World.drew_eq]
        repeat (first | ((with_reducible refine wpStill_indexAddr (hixH.out) ?_ ?_ ?_ ?_); rfl; rfl; rfl) | ((with_reducible refine wpStill_slice (hsl1H.out) ?_ ?_ ?_ ?_ ?_ ?_); rfl; rfl; rfl; rfl; rfl) | ((with_reducible refine wpStill_slice (hsl2H.out) ?_ ?_ ?_ ?_ ?_ ?_); rfl; rfl; rfl; rfl; rfl) | still_step)
        refine wpStill_nil ?_
        (with_reducible refine wpList_copy (hcpH.out) ?_ ?_ ?_ ?_); rfl; rfl; rfl
        go_wp2_with fail
        go_roundg (gk - 1)
        case measure => exact hfinH.out.2
        case rel => exact hfinH.out.1
      · rw [dif_neg hc] at hsnoc
        have hfin : CrashInv w' d pb cb D ks (.slice (some ⟨g, 0, none⟩) ks.length scap) (.slice va ch.length vcap) ch (gk - 1) (.int .i64 ((n : Int) + 1)) wr ∧ gk - 1 < gk := by
          refine ⟨⟨n + 1, rfl, by omega, ?_, hFr⟩, by omega⟩
          rw [hsnoc]; exact hDr
        have hfinH := Lib.hid hfin
        clear hfin
        clear hDr hFr hg3 hcl htk htl hkm hkr hne hsnoc hp
        go_wp2
        go_roundg (gk - 1)
        case measure => exact hfinH.out.2
        case rel => exact hfinH.out.1
    · have hnn : n = ks.length := by omega
      subst hnn
      rw [List.take_length] at hDr
      have c4r := hDr.c4
      have hszr := hDr.dsk.lt
      obtain ⟨oc, hcl, hm⟩ := run_clear (P := Try.prog) hDr.map 29 _ _ 0 Try.underlying29
      have hfc : Fr [cb] wr (wr.setBlk cb oc) := (Fr.refl _ _).setBlk _ _ (by simp)
      have hdc := hDr.dsk.keep hfc (by simpa using hDr.ne2)
      have c0 := hdc.cell 0
      have c1 := hdc.cell 1
      have c2 := hdc.cell 2
      have f0 := hdc.frozen 0
      have f1 := hdc.frozen 1
      have f2 := hdc.frozen 2
      have hfw : Fr [pb] w wr := (hfr1H.out.trans hfvH.out (S := [pb]) (by simp) (by simp)).trans hFr (by simp) (by simp)
      have hfin : DiskAt ((((wr.setBlk cb oc).setCell ⟨d, 0, none⟩ (.bool false)).setCell ⟨d, 1, none⟩ (.bool false)).setCell ⟨d, 2, none⟩ (.int .i64 0)) d pb cb { on := false, down := false, left := 0, pages := crashGo D.cache D.pages ks ch, cache := [] } ∧
          Fr [d, pb, cb] w ((((wr.setBlk cb oc).setCell ⟨d, 0, none⟩ (.bool false)).setCell ⟨d, 1, none⟩ (.bool false)).setCell ⟨d, 2, none⟩ (.int .i64 0)) := by
        have hfs : Fr [d] (wr.setBlk cb oc) ((((wr.setBlk cb oc).setCell ⟨d, 0, none⟩ (.bool false)).setCell ⟨d, 1, none⟩ (.bool false)).setCell ⟨d, 2, none⟩ (.int .i64 0)) :=
          (((Fr.refl [d] _).setCell _ _ (by simp)).setCell _ _ (by simp)).setCell _ _ (by simp)
        refine ⟨{ dsk := ?_, pgs := (hDr.pgs.keep hfc (by simpa using hDr.ne3)).keep hfs (by simpa using hDr.ne1.symm), map := hm.keep hfs (by simpa using hDr.ne2.symm), ne1 := hDr.ne1, ne2 := hDr.ne2, ne3 := hDr.ne3, keys := by simp, left := by simp, ok := by simp, len := hDr.len }, ?_⟩
        · exact ((hdc.setCell_same 0 _).setCell_same 1 _).setCell_same 2 _
        · exact (hfw.trans hfc (S := [d, pb, cb]) (by simp) (by simp)).trans hfs (by simp) (by simp)
      have hfinH := Lib.hid hfin
      clear hfin
      clear hDr hFr hdc hfw hm hfc
      go_wp2_with fail
      go_end0
      exact ⟨rfl, hfinH.out⟩
end Go.Proofs
