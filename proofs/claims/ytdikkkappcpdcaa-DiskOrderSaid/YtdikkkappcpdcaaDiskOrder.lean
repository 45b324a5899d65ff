/- DiskOrder: pages that are written in any order last, behind a Flush, as the last content of each says: proved for every list of places and every list of pages, without a condition. -/
import Derived.Test.YtdikkkappcpdcaaRows
import Derived.Test.YtdikkkappcpdcaaAwk3
import Derived.Test.YtdikkkappcpdcaaHeld
import Derived.Test.YtdikkkappcpdcaaOpen
import Derived.Carry
namespace Go.Proofs.Ytdikkkappcpdcaa.diskOrder
open Go Go.RowKit Go.Nx Go.ChangeShapes Go.WideShapes Go.ChangeAt Go.Proofs
set_option maxRecDepth 100000
set_option linter.unusedVariables false

/-- The disk behind some writes that haven't been flushed. -/
def dk (c : List (Int × Pg)) : DM := ⟨false, false, 0, List.replicate 16 Pg.zero, c⟩

theorem dk_write (c : List (Int × Pg)) (i : Int) (p : Pg) (h0 : 0 ≤ i) (h1 : i < 16) : (dk c).write i p = (0, dk (insP c i p)) := by
  have hl : (dk c).pages.length = 16 := List.length_replicate
  have hd : (dk c).down = false := rfl
  have hh : (dk c).has i = 0 := by
    unfold DM.has
    rw [hl, hd, if_neg (by simp), if_neg (by omega)]
  unfold DM.write
  rw [hh, if_neg (by simp)]
  rfl
theorem zero_getD (n i : Nat) : (List.replicate n Pg.zero).getD i Pg.zero = Pg.zero := by
  unfold List.getD
  rw [List.getElem?_replicate]
  split <;> rfl
theorem dk_lasts (c : List (Int × Pg)) (i : Int) : (dk c).lasts i = Pg.zero := by
  unfold DM.lasts
  split
  · rfl
  · exact zero_getD 16 i.toNat

/-- The disk behind the Flush. -/
def dkf (c : List (Int × Pg)) : DM := ⟨false, false, 0, laid (List.replicate 16 Pg.zero) c, []⟩
def qp (c : List (Int × Pg)) (i : Int) : Pg := (c.lookup i).getD Pg.zero
theorem dk_flush (c : List (Int × Pg)) : (dk c).flush = (0, dkf c) := rfl
theorem dkf_len (c : List (Int × Pg)) : (dkf c).pages.length = 16 := by
  show (laid (List.replicate 16 Pg.zero) c).length = 16
  rw [laid_length, List.length_replicate]
theorem dkf_page (c : List (Int × Pg)) (n : Nat) (h : n < 16) : (dkf c).page n = qp c n := by
  show (laid (List.replicate 16 Pg.zero) c).getD ((n : Int).toNat) Pg.zero = _
  unfold laid List.getD
  rw [Int.toNat_natCast, List.getElem?_mapIdx, List.getElem?_replicate, if_pos h]
  rfl
theorem dkf_read (c : List (Int × Pg)) (n : Nat) (h : n < 16) : (dkf c).read n = (qp c n, 0) := by
  have hd : (dkf c).down = false := rfl
  have hh : (dkf c).has n = 0 := by
    unfold DM.has
    rw [dkf_len, hd, if_neg (by simp), if_neg (by omega)]
  unfold DM.read
  rw [hh, if_neg (by simp), dkf_page c n h]
  rfl
theorem dkf_lasts (c : List (Int × Pg)) (n : Nat) (h : n < 16) : (dkf c).lasts n = qp c n := by
  unfold DM.lasts
  rw [dkf_len, if_neg (by omega), dkf_page c n h]

theorem mod16 (b : UInt8) : ∃ ix : Int, (wrap64 (b.toNat : Int)).tmod 16 = ix ∧ 0 ≤ ix ∧ ix < 16 := by
  have hb : b.toNat < 256 := b.toNat_lt
  have e : wrap64 (b.toNat : Int) = (b.toNat : Int) := by unfold wrap64; omega
  rw [e, Int.tmod_eq_emod_of_nonneg (by omega)]
  exact ⟨_, rfl, by omega, by omega⟩

/-- What holds at the head of the first loop: k of the places are still to come. -/
def Inv1 (W w : World) (d pb cb mb : Nat) (n : Nat) (k : Nat) (i : Value) (wr : World) : Prop :=
  ∃ (m : Nat) (c : List (Int × Pg)), i = .int .i64 m ∧ k + m = n ∧ DiskAt wr d pb cb (dk c) ∧ MapIs wr mb (pvs c) ∧ Below W.heap.size W wr

/-- What holds at the head of the second loop. -/
def Inv2 (W : World) (d pb cb mb : Nat) (c : List (Int × Pg)) (k : Nat) (i : Value) (wr : World) : Prop :=
  ∃ m : Nat, i = .int .i64 m ∧ k + m = 16 ∧ DiskAt wr d pb cb (dkf c) ∧ MapIs wr mb (pvs c) ∧ Below W.heap.size W wr

set_option maxHeartbeats 1600000 in
theorem walk (v0 v1 : Value) (la : List UInt8) (lp : List Pg) (w : World) (h0 : SlAt w v0 1 (fun c => [bv c]) la) (h1 : SlAt w v1 64 cl lp) :
    Calls Try.prog 3 #[v0, v1] w fun e w' => e = .returned (.bool true) ∧ Below w.heap.size w w' := by
  obtain ⟨a0, cap0, rfl, h0⟩ := h0
  obtain ⟨a1, cap1, rfl, h1⟩ := h1
  by_cases hlong : 60 < la.length
  · have hl : (60 : Int) < (la.length : Int) := by omega
    go_enter Try.func3, Try.ntmps3
    go_wp2_with fail
    refine (awake3 _).mono ?_
    rintro e w2 ⟨rfl, hB2⟩
    go_wp2_with fail
    go_ret
    exact ⟨rfl, hB2⟩
  · have hmm := @run_makeMap Try.prog
    have hl : ¬ (60 : Int) < (la.length : Int) := by omega
    have h0H := Lib.hid h0
    have h1H := Lib.hid h1
    clear h0 h1
    go_enter Try.func3, Try.ntmps3
    go_wp2_with fail
    refine (awake3 _).mono ?_
    rintro e w2 ⟨rfl, hB2⟩
    go_wp2_with fail
    refine (new_any _ 16 (by omega) (by omega)).mono ?_
    rintro e w3 ⟨d, pb, cb, rfl, hD, hF, hd, hp, hc⟩
    change DiskAt w3 d pb cb (dk []) at hD
    have hB3 := hB2.trans (hF.below (B := w.heap.size) hB2.size (by simp))
    have hs2 := hB2.size
    have hm3 := MapIs.of_new w3
    have hD3 := hD.keep (S := []) ((Fr.refl _ _).alloc (.map #[] 0)) (by simp) (by simp) (by simp)
    have hB4 := hB3.trans ((Below.refl _ _).alloc hB3.size (.map #[] 0))
    have hmd : w3.heap.size ≠ d ∧ w3.heap.size ≠ pb ∧ w3.heap.size ≠ cb := by
      have := hD.dsk.lt
      have := hD.pgs.lt
      have := hD.map.lt
      omega
    have hmw : w.heap.size ≤ w3.heap.size := hB3.size
    have hdw : w.heap.size ≤ d ∧ w.heap.size ≤ pb ∧ w.heap.size ≤ cb := by omega
    have hD3H := Lib.hid hD3
    have hm3H := Lib.hid hm3
    have hB4H := Lib.hid hB4
    clear hD3 hm3 hB4
    clear hD hF hd hp hc hB2 hB3 hs2
    generalize hmb : w3.heap.size = mb at *
    go_wp2_with fail
    go_loopg [28] la.length (fun k i wr => Inv1 w w3 d pb cb mb la.length k i wr)
    case atStart => exact ⟨0, [], rfl, by omega, hD3H.out, hm3H.out, hB4H.out⟩
    case round =>
      obtain ⟨m, c, rfl, hk, hDr, hmr, hBr⟩ := hrel
      by_cases hlt : m < la.length
      · have hne : la ≠ [] := by intro e; rw [e] at hlt; simp at hlt
        obtain ⟨b0, o0, rfl, hb0, hr0⟩ := h0H.out hne
        have hcell : wr.cell? ⟨b0, o0 + m, none⟩ = some (bv la[m]) := by
          have h2 := hr0 m hlt 0 _ rfl
          rw [Nat.mul_one, Nat.add_zero] at h2
          exact (hBr.cell hb0).trans h2
        generalize la[m] = byte at *
        obtain ⟨ix, hixe, hix0, hix1⟩ := mod16 byte
        unfold bv at hcell
        have hal := run_alloc_pg (P := Try.prog) pgTy wr
        have hld0 := hDr.dsk.lt
        have hlc0 := hDr.map.lt
        have hlm0 := hmr.lt
        have hbs := hBr.size
        by_cases hlp : m < lp.length
        · have hne1 : lp ≠ [] := by intro e; rw [e] at hlp; simp at hlp
          obtain ⟨b1, o1, rfl, hb1, hr1⟩ := h1H.out hne1
          obtain ⟨w1, hst, hbx, hfx, hsx⟩ := store_box pgTy (Blk.new wr 31 (cl Pg.zero)) lp[m]
          have hF1 : Fr [] wr w1 := ((Fr.refl [] wr).alloc zbox).trans hfx (by simp) (by simp)
          have hlda := run_load_pg (P := Try.prog) pgTy (rangeAt_below (hr1 m hlp) (hBr.trans ((Below.refl _ _).alloc hbs zbox)) hb1)
          have hixa := run_index_off (P := Try.prog) (S := 23) Try.underlying23 pgTy.size b1 o1 lp.length cap1 m (by omega) (by omega) (wr.alloc zbox)
          rw [Int.toNat_natCast] at hixa
          generalize lp[m] = pg at *
          have hstH := Lib.hid hst
          have hldaH := Lib.hid hlda
          have hixaH := Lib.hid hixa
          clear hst hlda hixa
          clear hr1 hr0 hfx hsx
          have hld := run_load_pg (P := Try.prog) pgTy hbx.range1
          have hD1 := hDr.keep hF1 (by simp) (by simp) (by simp)
          have hwr := write_to hD1 (dk_write c ix pg hix0 hix1)
          have halH := Lib.hid hal
          have hldH := Lib.hid hld
          have hD1H := Lib.hid hD1
          have hwrH := Lib.hid hwr
          have hF1H := Lib.hid hF1
          have hmrH := Lib.hid hmr
          have hBrH := Lib.hid hBr
          have hDrH := Lib.hid hDr
          clear hal hld hD1 hwr hF1 hmr hBr hDr
          go_wp2_with (first
            | ((with_reducible refine wpList_alloc (halH.out) ?_ ?_); rfl)
            | ((with_reducible refine wpList_store (hstH.out) ?_ ?_ ?_ ?_); rfl; rfl; rfl)
            | ((with_reducible refine wpList_load (hldaH.out) ?_ ?_ ?_); rfl; rfl)
            | ((with_reducible refine wpList_indexAddr (hixaH.out) ?_ ?_ ?_ ?_); rfl; rfl; rfl)
            | ((with_reducible refine wpList_load (hldH.out) ?_ ?_ ?_); rfl; rfl))
          refine hwrH.out.mono ?_
          rintro e w2 ⟨rfl, hD2, hF2⟩
          have hla := lasts_any w2 d pb cb _ hD2 ix
          rw [dk_lasts] at hla
          have hlaH := Lib.hid hla
          have hD2H := Lib.hid hD2
          have hF2H := Lib.hid hF2
          clear hla hD2 hF2
          go_wp2_with fail
          refine (hlaH.out).mono ?_
          rintro e w4 ⟨rfl, hF4⟩
          have hbu := run_build_pg (P := Try.prog) pgTy w4
          have hpe := run_equalIn_pg (P := Try.prog) pgTy Pg.zero Pg.zero w4
          rw [beq_self_eq_true] at hpe
          have hF24 : Fr [d, cb] wr w4 := (hF1H.out.trans hF2H.out (S := [d, cb]) (by simp) (by simp)).trans hF4 (by simp) (by simp)
          have hld4 := run_load_pg (P := Try.prog) pgTy ((hbx.keep hF2H.out (by simp; omega)).keep hF4 (by simp)).range1
          have hm4 := hmrH.out.keep hF24 (by simp; omega)
          obtain ⟨ob, hmu, hmm4⟩ := run_mapUpdate (P := Try.prog) hm4 29 _ _ Try.underlying29 Try.underlying3 ix (pv pg)
          rw [pvs_ins _ _ _ hm4.nodup] at hmm4
          have hfb : Fr [mb] w4 (w4.setBlk mb ob) := (Fr.refl _ _).setBlk _ _ (by simp)
          have hD4 := (hD2H.out.keep hF4 (by simp) (by simp) (by simp)).keep hfb (by simp; omega) (by simp; omega) (by simp; omega)
          have hB4' := (hBrH.out.trans (hF24.below (B := w.heap.size) hbs (by simp; omega))).trans (hfb.below (B := w.heap.size) (by have := hF24.size; omega) (by simp; omega))
          have hfin : Inv1 w w3 d pb cb mb la.length (gk - 1) (.int .i64 ((m : Int) + 1)) (w4.setBlk mb ob) ∧ gk - 1 < gk := ⟨⟨m + 1, _, rfl, by omega, hD4, hmm4, hB4'⟩, by omega⟩
          have hm60 : m < 60 := by omega
          have hbuH := Lib.hid hbu
          have hld4H := Lib.hid hld4
          have hmuH := Lib.hid hmu
          have hfinH := Lib.hid hfin
          clear hbu hld4 hmu hfin
          clear hF4 hF24 hm4 hmm4 hfb hD4 hB4'
          go_wp2_with (first
            | ((with_reducible refine wpList_build0 (hbuH.out) ?_ ?_); rfl)
            | ((with_reducible refine wpList_load (hld4H.out) ?_ ?_ ?_); rfl; rfl)
            | ((with_reducible refine wpList_mapUpdate (hmuH.out) ?_ ?_ ?_ ?_ ?_); rfl; rfl; rfl; rfl))
          go_roundg (gk - 1)
          case measure => exact hfinH.out.2
          case rel => exact hfinH.out.1
        · have hbx := Blk.new wr 31 (cl Pg.zero)
          have hF1 : Fr [] wr (wr.alloc zbox) := (Fr.refl [] wr).alloc zbox
          clear hr0
          have hld := run_load_pg (P := Try.prog) pgTy hbx.range1
          have hD1 := hDr.keep hF1 (by simp) (by simp) (by simp)
          have hwr := write_to hD1 (dk_write c ix Pg.zero hix0 hix1)
          have halH := Lib.hid hal
          have hldH := Lib.hid hld
          have hD1H := Lib.hid hD1
          have hwrH := Lib.hid hwr
          have hF1H := Lib.hid hF1
          have hmrH := Lib.hid hmr
          have hBrH := Lib.hid hBr
          have hDrH := Lib.hid hDr
          clear hal hld hD1 hwr hF1 hmr hBr hDr
          go_wp2_with (first
            | ((with_reducible refine wpList_alloc (halH.out) ?_ ?_); rfl)
            | (fail)
            | (fail)
            | (fail)
            | ((with_reducible refine wpList_load (hldH.out) ?_ ?_ ?_); rfl; rfl))
          refine hwrH.out.mono ?_
          rintro e w2 ⟨rfl, hD2, hF2⟩
          have hla := lasts_any w2 d pb cb _ hD2 ix
          rw [dk_lasts] at hla
          have hlaH := Lib.hid hla
          have hD2H := Lib.hid hD2
          have hF2H := Lib.hid hF2
          clear hla hD2 hF2
          go_wp2_with fail
          refine (hlaH.out).mono ?_
          rintro e w4 ⟨rfl, hF4⟩
          have hbu := run_build_pg (P := Try.prog) pgTy w4
          have hpe := run_equalIn_pg (P := Try.prog) pgTy Pg.zero Pg.zero w4
          rw [beq_self_eq_true] at hpe
          have hF24 : Fr [d, cb] wr w4 := (hF1H.out.trans hF2H.out (S := [d, cb]) (by simp) (by simp)).trans hF4 (by simp) (by simp)
          have hld4 := run_load_pg (P := Try.prog) pgTy ((hbx.keep hF2H.out (by simp; omega)).keep hF4 (by simp)).range1
          have hm4 := hmrH.out.keep hF24 (by simp; omega)
          obtain ⟨ob, hmu, hmm4⟩ := run_mapUpdate (P := Try.prog) hm4 29 _ _ Try.underlying29 Try.underlying3 ix (pv Pg.zero)
          rw [pvs_ins _ _ _ hm4.nodup] at hmm4
          have hfb : Fr [mb] w4 (w4.setBlk mb ob) := (Fr.refl _ _).setBlk _ _ (by simp)
          have hD4 := (hD2H.out.keep hF4 (by simp) (by simp) (by simp)).keep hfb (by simp; omega) (by simp; omega) (by simp; omega)
          have hB4' := (hBrH.out.trans (hF24.below (B := w.heap.size) hbs (by simp; omega))).trans (hfb.below (B := w.heap.size) (by have := hF24.size; omega) (by simp; omega))
          have hfin : Inv1 w w3 d pb cb mb la.length (gk - 1) (.int .i64 ((m : Int) + 1)) (w4.setBlk mb ob) ∧ gk - 1 < gk := ⟨⟨m + 1, _, rfl, by omega, hD4, hmm4, hB4'⟩, by omega⟩
          have hm60 : m < 60 := by omega
          have hbuH := Lib.hid hbu
          have hld4H := Lib.hid hld4
          have hmuH := Lib.hid hmu
          have hfinH := Lib.hid hfin
          clear hbu hld4 hmu hfin
          clear hF4 hF24 hm4 hmm4 hfb hD4 hB4'
          go_wp2_with (first
            | ((with_reducible refine wpList_build0 (hbuH.out) ?_ ?_); rfl)
            | ((with_reducible refine wpList_load (hld4H.out) ?_ ?_ ?_); rfl; rfl)
            | ((with_reducible refine wpList_mapUpdate (hmuH.out) ?_ ?_ ?_ ?_ ?_); rfl; rfl; rfl; rfl))
          go_roundg (gk - 1)
          case measure => exact hfinH.out.2
          case rel => exact hfinH.out.1
      · have hm : m = la.length := by omega
        subst hm
        have hb0 := hBr.size
        have hln := run_len (P := Try.prog) hmr 29 _ _ 3 Try.underlying29
        have hpl : (pvs c).length = c.length := by simp [pvs]
        rw [hpl] at hln
        have hcd := cached_any wr d pb cb _ hDr
        have hfl := flush_to hDr (dk_flush c)
        change Calls _ _ _ _ (fun e w' => e = .returned (.int .i64 c.length) ∧ wr = w') at hcd
        have hcdH := Lib.hid hcd
        have hflH := Lib.hid hfl
        have hDrH := Lib.hid hDr
        have hmrH := Lib.hid hmr
        have hBrH := Lib.hid hBr
        clear hcd hfl hDr hmr hBr
        clear hpl
        go_wp2_with fail
        refine (hcdH.out).mono ?_
        rintro e _ ⟨rfl, rfl⟩
        go_wp2_with fail
        refine (hflH.out).mono ?_
        rintro e w4 ⟨rfl, hD4, hF4⟩
        have hc4 := cached_any w4 d pb cb _ hD4
        change Calls _ _ _ _ (fun e w' => e = .returned (.int .i64 0) ∧ w4 = w') at hc4
        have hm4 := hmrH.out.keep hF4 (by simp; omega)
        have hB4 := hBrH.out.trans (hF4.below (B := w.heap.size) hb0 (by simp; omega))
        have hc4H := Lib.hid hc4
        have hD4H := Lib.hid hD4
        have hm4H := Lib.hid hm4
        have hB4H := Lib.hid hB4
        clear hc4 hD4 hm4 hB4
        clear hF4 hln
        go_wp2_with fail
        refine (hc4H.out).mono ?_
        rintro e _ ⟨rfl, rfl⟩
        go_wp2_with fail
        go_loopg [11] 16 (fun k i wr => Inv2 w d pb cb mb c k i wr)
        case atStart => exact ⟨0, rfl, rfl, hD4H.out, hm4H.out, hB4H.out⟩
        case round =>
          obtain ⟨n, rfl, hk2, hD, hm, hB⟩ := hrel
          by_cases hn : n < 16
          · have hrd := read_any wr d pb cb _ hD n
            rw [dkf_read c n hn] at hrd
            have hbs := hB.size
            have hdl := hD.dsk.lt
            have hrdH := Lib.hid hrd
            have hDH := Lib.hid hD
            have hmH := Lib.hid hm
            have hBH := Lib.hid hB
            clear hrd hD hm hB
            go_wp2_with fail
            refine (hrdH.out).mono ?_
            rintro e w5 ⟨rfl, hF5⟩
            have hal := run_alloc_pg (P := Try.prog) pgTy w5
            obtain ⟨w6, hst, hbx, hfx, hsx⟩ := store_box pgTy (Blk.new w5 31 (cl Pg.zero)) (qp c n)
            have hF6 : Fr [] wr w6 := hF5.trans (((Fr.refl [] w5).alloc zbox).trans hfx (S := []) (by simp) (by simp)) (by simp) (by simp)
            have hD6 := hDH.out.keep hF6 (by simp) (by simp) (by simp)
            have hm6 := hmH.out.keep hF6 (by simp)
            have hB6 := hBH.out.trans (hF6.below (B := w.heap.size) hbs (by simp))
            obtain ⟨S, hS⟩ : ∃ S : World → Prop, ∀ x, S x ↔ Fr [] w6 x := ⟨_, fun _ => Iff.rfl⟩
            have hS0 : S w6.drew := (hS _).2 (Fr.refl _ _).drew
            have hldx : ∀ x, S x → (Instr.loadAt 31 (ptr w5.heap.size)).run Try.prog x = .ok (pv (qp c n)) x := fun x hx => run_load_pg pgTy (hbx.keep ((hS x).1 hx) (by simp)).range1
            have hlkx : ∀ x, S x → (Instr.lookup 29 (.map (some mb)) (.int .i64 (n : Int)) false).run Try.prog x = .ok (pv (qp c n)) x := fun x hx => by
              have h := run_lookup (P := Try.prog) (hm6.keep ((hS x).1 hx) (by simp)) 29 _ _ Try.underlying29 Try.underlying3 _ pgTy.zero (n : Int) false
              rw [get_pvs] at h
              rw [h]
              unfold qp
              cases c.lookup (n : Int) <;> rfl
            have hlax : ∀ x, S x → Calls Try.prog 14 #[ptr d, .int .i64 (n : Int)] x fun e w' => e = .returned (pv (qp c n)) ∧ S w' := fun x hx => by
              have h := lasts_any x d pb cb _ (hD6.keep ((hS x).1 hx) (by simp) (by simp) (by simp)) n
              rw [dkf_lasts c n hn] at h
              exact h.mono fun e w' ⟨h1, h2⟩ => ⟨h1, (hS _).2 (((hS x).1 hx).trans h2 (by simp) (by simp))⟩
            have hpe : ∀ x, (Op.equalIn 10000 31 (pv (qp c n)) (pv (qp c n))).run Try.prog x = .ok true x := fun x => by
              have h := run_equalIn_pg (P := Try.prog) pgTy (qp c n) (qp c n) x
              rwa [beq_self_eq_true] at h
            have hfin : ∀ x, S x → Inv2 w d pb cb mb c (gk - 1) (.int .i64 ((n : Int) + 1)) x ∧ gk - 1 < gk := fun x hx =>
              ⟨⟨n + 1, rfl, by omega, hD6.keep ((hS x).1 hx) (by simp) (by simp) (by simp), hm6.keep ((hS x).1 hx) (by simp), hB6.trans (((hS x).1 hx).below (B := w.heap.size) hB6.size (by simp))⟩, by omega⟩
            have halH := Lib.hid hal
            have hstH := Lib.hid hst
            have hldxH := Lib.hid hldx
            have hlkxH := Lib.hid hlkx
            have hlaxH := Lib.hid hlax
            have hfinH := Lib.hid hfin
            have hSH := Lib.hid hS
            clear hal hst hldx hlkx hlax hfin hS
            clear hF5 hF6 hD6 hm6 hB6 hfx hbx hsx
            go_wp2_with (first
              | ((with_reducible refine wpList_alloc (halH.out) ?_ ?_); rfl)
              | ((with_reducible refine wpList_store (hstH.out) ?_ ?_ ?_ ?_); rfl; rfl; rfl))
            refine wp_region_kin S (by kernel_rfl) (by kernel_rfl) hS0 ?_
            repeat ((first
              | ((with_reducible refine wpHeld_load (hldxH.out) ?_ ?_ ?_); rfl; rfl)
              | ((with_reducible refine wpHeld_lookup (hlkxH.out) ?_ ?_ ?_ ?_); rfl; rfl; rfl)
              | ((with_reducible refine wpHeld_call (hlaxH.out) Try.func14 (by kernel_rfl) (by kernel_rfl) ?_ ?_ ?_); rfl; rfl)
              | (refine wpHeld_not rfl ?_)
              | (refine wpHeld_value rfl (fun w hS => by go_simp; rfl) ?_)); (try simp only [Act.put, List.setIfInBounds_toArray, List.set_cons_succ, List.set_cons_zero]))
            refine wpHeld_nil ?_
            intro w7 hS7
            go_wp2
            go_roundg (gk - 1)
            case measure => exact (hfinH.out _ hS7).2
            case rel => exact (hfinH.out _ hS7).1
          · have hn16 : n = 16 := by omega
            subst hn16
            have hBH := Lib.hid hB; clear hB hD hm
            go_wp2
            go_ret
            exact ⟨rfl, hBH.out⟩

theorem own : ownKnob Try.prog.godebug = none := by kernel_rfl
theorem laidOut : laidOutB Try.prog = true := by kernel_rfl
theorem lifted (os : Os) (started : os.Started) (H : Type) (enc : TypeId × Value → H) :
    ReturnsInHanded {} Try.checked os 3 .any (Rows.diskOrderSpec.pre6 enc Try.prog Try.f3 Rows.diskOrderRow.domain false) (Rows.diskOrderSpec.post enc Try.prog Try.f3 false true false false) := by
  refine returnsInHanded_of_change (C := Try.checked) own started (by kernel_rfl) Try.func3
    (ChangeSpec.witness6 (enc := enc) (C := Try.checked) false ⟨#[], #[.slice none 0 0, .slice none 0 0], []⟩ 8 (by kernel_rfl) (by kernel_rfl) (by kernel_rfl) (by kernel_rfl)) ?_
  intro W base args ds gs before hval0 hW hcnd _
  have hval : ∀ (j : Nat) t v, Try.f3.params[j]? = some t → args[j]? = some v → Value.okWide Try.prog W .any base t v := hval0
  have hW' := hW
  obtain ⟨p, q, hA0, hV, rfl, hfz, hnd⟩ := hW
  have hA : DataW.TrodAll enc Try.prog W 0 (fun _ => true) true Try.f3.params.toList args.toList ds p := hA0
  rw [Try.params3] at hA hval
  obtain ⟨v0, vs0, d0, ds0, p0, q0, hargs, rfl, rfl, h0, r0⟩ := trodAll_cons hA
  obtain ⟨v1, vs1, d1, ds1, p1, q1, rfl, rfl, rfl, h1, r1⟩ := trodAll_cons r0
  obtain ⟨rfl, rfl, rfl⟩ := trodAll_nil r1
  obtain rfl : args = #[v0, v1] := by cases args; simp_all
  obtain ⟨rfl, rfl⟩ := trodVars_none hV
  have k0 := h0
  have lt0 : ∀ x ∈ p0, x.block < W.heap.size := by obtain ⟨m, hm⟩ := k0; exact DataW.trod_lt m _ _ _ hm
  have k1 := h1
  have lt1 : ∀ x ∈ p1, x.block < W.heap.size := by obtain ⟨m, hm⟩ := k1; exact DataW.trod_lt m _ _ _ hm
  obtain ⟨x0, s0⟩ := open_bytes Try.underlying22 Try.underlying5 (by kernel_rfl) (hval 0 22 v0 rfl rfl) h0
  obtain ⟨x1, s1⟩ := open_pgs Try.underlying23 Try.underlying31 Try.underlying5 (by kernel_rfl) (by kernel_rfl) (hval 1 23 v1 rfl rfl) h1
  clear hA0 hval0
  refine (walk v0 v1 x0 x1 W s0 s1).mono fun e W' ⟨he, bel⟩ => ?_
  subst he
  exact ⟨_, rfl, _, _, _, [], _, [], hW', trodAll_mk1 (shut_bool Try.underlying4 _), (trodAll_cons_mk (Below.trod laidOut (by kernel_rfl) (of_decide_eq_true (by kernel_rfl)) k0 bel lt0) (trodAll_cons_mk (Below.trod laidOut (by kernel_rfl) (of_decide_eq_true (by kernel_rfl)) k1 bel lt1) trodAll_mk0)), rfl, bel.frame _, fun h => by cases h⟩

theorem over : Rows.diskOrderRow.holds Try.pinned (OpenSpec.ofChange Rows.diskOrderSpec) :=
  OpenClaim.holds_of_wide 3 Try.f3 rfl rfl rfl rfl rfl rfl rfl ⟨rfl, rfl, rfl, rfl, rfl⟩ rfl rfl rfl rfl rfl (by kernel_rfl) Try.func3 (by kernel_rfl)
    (of_decide_eq_true (by kernel_rfl)) (by unfold Func.isWrapper; first | (rw [if_pos (by decide +kernel)]; kernel_rfl) | (rw [if_neg (by decide +kernel)]; exact ⟨rfl, rfl⟩))
    (fun os started H enc _ => lifted os started H enc)
end Go.Proofs.Ytdikkkappcpdcaa.diskOrder
namespace Go.Proofs.Ytdikkkappcpdcaa

/-- DiskOrder. -/
theorem diskOrder_holds : Rows.DiskOrderSaid := diskOrder.over
#print axioms diskOrder_holds
end Go.Proofs.Ytdikkkappcpdcaa
