/- DiskKeeps: behind a crash each page has a beginning of what was written since the last flush, and the rest as it was: proved for every script and every row of bytes, without a condition. -/
import Derived.Test.YtdikkkappcpdcaaRows
import Derived.Test.YtdikkkappcpdcaaAwk3
import Derived.Test.YtdikkkappcpdcaaFlag
import Derived.Test.YtdikkkappcpdcaaKeep3
import Derived.Test.YtdikkkappcpdcaaArr
import Derived.Carry
namespace Go.Proofs.Ytdikkkappcpdcaa.diskKeeps
open Go Go.RowKit Go.Nx Go.ChangeShapes Go.WideShapes Go.ChangeAt Go.Proofs
set_option maxRecDepth 100000
set_option linter.unusedVariables false

/-- What holds at the head of the first loop: k of the calls are still to come. -/
def Inv1 (W : World) (d pb cb N k : Nat) (i : Value) (wr : World) : Prop :=
  ∃ (m : Nat) (D : DM) (R : RM), i = .int .i64 m ∧ k + m = N ∧ DiskAt wr d pb cb D ∧ Rel D R ∧ R.last.length = 8 ∧ Below W.heap.size W wr

/-- The first m of eight pages. -/
def firsts (f : Nat → Pg) (m : Nat) : List Pg := (List.range 8).map fun j => if j < m then f j else Pg.zero
theorem firsts_length (f : Nat → Pg) (m : Nat) : (firsts f m).length = 8 := by simp [firsts]
theorem firsts_zero (f : Nat → Pg) : firsts f 0 = List.replicate 8 Pg.zero := by simp [firsts]; decide
theorem firsts_set (f : Nat → Pg) (m : Nat) : (firsts f m).set m (f m) = firsts f (m + 1) := by
  apply List.ext_getElem
  · simp [firsts]
  · intro j h1 h2
    simp only [firsts, List.getElem_set, List.getElem_map, List.getElem_range]
    by_cases hj : m = j
    · subst hj; simp
    · rw [if_neg hj]
      by_cases h : j < m
      · rw [if_pos h, if_pos (by omega)]
      · rw [if_neg h, if_neg (by omega)]
theorem firsts_get (f : Nat → Pg) (j : Nat) (hj : j < (firsts f 8).length) : (firsts f 8)[j] = f j := by
  simp [firsts]
  intro h
  simp [firsts] at hj
  omega

/-- What holds at the head of the second loop: k of the pages are still to come. -/
def Inv2 (W : World) (d pb cb a b : Nat) (D : DM) (k : Nat) (i : Value) (wr : World) : Prop :=
  ∃ m : Nat, i = .int .i64 m ∧ k + m = 8 ∧ DiskAt wr d pb cb D ∧ Blk wr a 43 (flat (firsts (fun j => D.lasts j) m)) ∧ Blk wr b 43 (flat (firsts (fun j => (D.read j).1) m)) ∧ Below W.heap.size W wr

/-- What holds at the head of the third loop: k of the pages are still to come. -/
def Inv3 (W : World) (d pb cb a b : Nat) (D : DM) (dn : Bool) (kl : List UInt8) (k : Nat) (i t : Value) (wr : World) : Prop :=
  ∃ m : Nat, i = .int .i64 m ∧ t = .int .i64 (if dn = true then 0 else chg D kl m : Nat) ∧ k + m = 8 ∧ DiskAt wr d pb cb (D.crash kl) ∧ Blk wr a 43 (flat (firsts (fun j => D.lasts j) 8)) ∧ Blk wr b 43 (flat (firsts (fun j => (D.read j).1) 8)) ∧ Below W.heap.size W wr

/-- What holds at the head of the two innermost loops. -/
def InvK (w8 : World) (lo k : Nat) (i : Value) (wr : World) : Prop := ∃ n : Nat, i = .int .i64 n ∧ k + n = 64 ∧ lo ≤ n ∧ Fr [] w8 wr

set_option maxHeartbeats 40000000 in
theorem walk (v0 v1 : Value) (l : List OpM) (kl : List UInt8) (w : World) (h0 : SlAt w v0 67 opEnc l) (hok : ∀ o ∈ l, OpOk w o) (h1 : SlAt w v1 1 (fun c => [bv c]) kl) :
    Calls Try.prog 4 #[v0, v1] w fun e w' => e = .returned (.bool true) ∧ Below w.heap.size w w' := by
  obtain ⟨a0, cap0, rfl, h0⟩ := h0
  obtain ⟨ka, kcap, rfl, hkc⟩ := h1
  have hks : SlAt w (.slice ka kl.length kcap) 1 (fun c => [bv c]) kl := ⟨ka, kcap, rfl, hkc⟩
  clear hkc
  by_cases hbad : 100 < l.length ∨ 600 < kl.length
  · by_cases hl1 : 100 < l.length
    · have hl : (100 : Int) < (l.length : Int) := by omega
      clear hbad hl1
      have h0H := Lib.hid h0
      have hokH := Lib.hid hok
      have hksH := Lib.hid hks
      clear h0 hok hks
      go_enter Try.func4, Try.ntmps4
      go_wp2_with fail
      refine (awake3 _).mono ?_
      rintro e w2 ⟨rfl, hB2⟩
      have hB2H := Lib.hid hB2
      clear hB2
      go_wp2
      go_ret
      exact ⟨rfl, hB2H.out⟩
    · have hl : ¬ (100 : Int) < (l.length : Int) := by omega
      have hl2 : (600 : Int) < (kl.length : Int) := by omega
      clear hbad hl1
      have h0H := Lib.hid h0
      have hokH := Lib.hid hok
      have hksH := Lib.hid hks
      clear h0 hok hks
      go_enter Try.func4, Try.ntmps4
      go_wp2_with fail
      refine (awake3 _).mono ?_
      rintro e w2 ⟨rfl, hB2⟩
      have hB2H := Lib.hid hB2
      clear hB2
      go_wp2
      go_ret
      exact ⟨rfl, hB2H.out⟩
  · have hl : ¬ (100 : Int) < (l.length : Int) := by omega
    have hl2 : ¬ (600 : Int) < (kl.length : Int) := by omega
    have hl' : l.length ≤ 100 := by omega
    have hl2' : kl.length ≤ 600 := by omega
    clear hbad
    have h0H := Lib.hid h0
    have hokH := Lib.hid hok
    have hksH := Lib.hid hks
    clear h0 hok hks
    go_enter Try.func4, Try.ntmps4
    go_wp2_with fail
    refine (awake3 _).mono ?_
    rintro e w2 ⟨rfl, hB2⟩
    have hBH2 := Lib.hid hB2; clear hB2
    go_wp2_with fail
    refine (new_any _ 8 (by omega) (by omega)).mono ?_
    rintro e w3 ⟨d, pb, cb, rfl, hD, hF, hd, hp, hc⟩
    have hB3 := hBH2.out.trans (hF.below (B := w.heap.size) hBH2.out.size (by simp))
    have hs2 := hBH2.out.size
    have hlow : w.heap.size ≤ d ∧ w.heap.size ≤ pb ∧ w.heap.size ≤ cb := by omega
    have hRel := Rel.start 8
    change DiskAt w3 d pb cb ⟨false, false, 0, List.replicate 8 Pg.zero, []⟩ at hD
    generalize hD0 : (⟨false, false, 0, List.replicate 8 Pg.zero, []⟩ : DM) = D0 at *
    generalize hR0 : (⟨List.replicate 8 Pg.zero, List.replicate 8 Pg.zero, List.replicate 8 false, -1, false⟩ : RM) = R0 at *
    have hL0 : R0.last.length = 8 := by rw [← hR0]; rfl
    have hDH := Lib.hid hD
    have hB3H := Lib.hid hB3
    have hlowH := Lib.hid hlow
    have hRelH := Lib.hid hRel
    have hL0H := Lib.hid hL0
    clear hD hB3 hlow hRel hL0
    clear hF hd hp hc hs2 hBH2 hD0 hR0 w2
    go_wp2_with fail
    go_loopg [37] l.length (fun k i wr => Inv1 w d pb cb l.length k i wr)
    case atStart => exact ⟨0, D0, R0, rfl, by omega, hDH.out, hRelH.out, hL0H.out, hB3H.out⟩
    case round =>
      clear hDH hB3H hRelH hL0H
      obtain ⟨m, D, R, rfl, hk, hD, hRel, hLn, hB⟩ := hrel
      by_cases hlt : m < l.length
      · have hne : l ≠ [] := by intro e; rw [e] at hlt; simp at hlt
        obtain ⟨b1, o1, rfl, hb1, hr1⟩ := h0H.out hne
        have hag := rangeAt_below (hr1 m hlt) hB hb1
        have hok1 := hokH.out l[m] (List.getElem_mem hlt)
        have hixa := run_index_off (P := Try.prog) (S := 39) Try.underlying39 opTy.size b1 o1 l.length cap0 m (by omega) (by omega) wr
        rw [Int.toNat_natCast] at hixa
        clear hr1
        generalize l[m] = o at *
        have hlda := run_load_agg (P := Try.prog) opTy (opEnc_length o) hag
        have hala := run_alloc_agg (P := Try.prog) opTy wr
        obtain ⟨w1, hsta, hbx, hfx, hsx⟩ := store_agg opTy (opEnc_length opZero) (opEnc_length o) hok1.one (Blk.new wr 41 (opEnc opZero))
        have hF1 : Fr [] wr w1 := ((Fr.refl [] wr).alloc _).trans hfx (by simp) (by simp)
        have hbs := hB.size
        have hlts : d < wr.heap.size ∧ pb < wr.heap.size ∧ cb < wr.heap.size := ⟨hD.dsk.lt, hD.pgs.lt, hD.map.lt⟩
        replace hD := hD.keep hF1 (by simp) (by simp) (by simp)
        replace hB := hB.trans (hF1.below (B := w.heap.size) hbs (by simp))
        generalize hxb : wr.heap.size = xb at *
        have hq : (w.heap.size ≤ d ∧ d < xb) ∧ (w.heap.size ≤ pb ∧ pb < xb) ∧ (w.heap.size ≤ cb ∧ cb < xb) ∧ w.heap.size ≤ xb := by have := hlowH.out; omega
        obtain ⟨ok, on, opg, kv⟩ := o
        obtain ⟨hokk, hokn, _⟩ := hok1
        simp only at hokk hokn
        have hm1 : gk - 1 < gk := by omega
        have hm2 : gk - 1 + (m + 1) = l.length := by omega
        have hx0 : w1.cell? ⟨xb, 0, none⟩ = some (.int .i64 ok) := opBlk_0 hbx
        have hx1 := opLd_1 hbx
        have hxp := opLd_2 hbx
        have hm100 : m < 100 := by omega
        have hixaH := Lib.hid hixa
        have hldaH := Lib.hid hlda
        have halaH := Lib.hid hala
        have hstaH := Lib.hid hsta
        have hqH := Lib.hid hq
        have hoknH := Lib.hid hokn
        have hDH := Lib.hid hD
        have hRelH := Lib.hid hRel
        have hBH := Lib.hid hB
        have hLnH := Lib.hid hLn
        have hx1H := Lib.hid hx1
        have hxpH := Lib.hid hxp
        have hm2H := Lib.hid hm2
        have hm1H := Lib.hid hm1
        clear hixa hlda hala hsta hq hokn hD hRel hB hLn hx1 hxp hm2 hm1
        clear hfx hsx hag hF1 hbs hlts hokk hxb hbx
        by_cases hk0 : ok = 0
        · subst hk0
          obtain ⟨g, D', R', hDw, hRw, hRel', hLn'⟩ := hRelH.out.write' on opg
          rw [hLnH.out] at hLn'
          have hc1 := write_to hDH.out hDw
          clear hDw hRw
          have hRH' := Lib.hid hRel'
          have hLH' := Lib.hid hLn'
          clear hRel' hLn'
          have hc1H := Lib.hid hc1
          clear hc1
          go_wp2_with (first
            | ((with_reducible refine wpList_indexAddr (hixaH.out) ?_ ?_ ?_ ?_); rfl; rfl; rfl)
            | ((with_reducible refine wpList_load (hldaH.out) ?_ ?_ ?_); rfl; rfl)
            | ((with_reducible refine wpList_alloc (halaH.out) ?_ ?_); rfl)
            | ((with_reducible refine wpList_store (hstaH.out) ?_ ?_ ?_ ?_); rfl; rfl; rfl)
            | ((with_reducible refine wpList_load (hx1H.out) ?_ ?_ ?_); rfl; rfl)
            | ((with_reducible refine wpList_load (hxpH.out) ?_ ?_ ?_); rfl; rfl))
          refine hc1H.out.mono ?_
          rintro e wA ⟨rfl, hDA, hFA⟩
          have hRel' := hRH'.out
          have hLn' := hLH'.out
          have hq := hqH.out
          have hfin : Inv1 w d pb cb l.length (gk - 1) (.int .i64 ((m : Int) + 1)) wA := ⟨m + 1, _, _, rfl, hm2H.out, hDA, hRel', hLn', hBH.out.trans (hFA.below (B := w.heap.size) hBH.out.size (by simp; try omega))⟩
          have hfinH := Lib.hid hfin
          clear hfin
          clear hDA hFA hq hRel' hLn'
          go_wp2
          go_roundg (gk - 1)
          case measure => exact hm1H.out
          case rel => exact hfinH.out
        · by_cases hk2 : ok = 2
          · subst hk2
            obtain ⟨g, D', R', hDw, hRw, hRel', hLn'⟩ := hRelH.out.flush'
            rw [hLnH.out] at hLn'
            have hc1 := flush_to hDH.out hDw
            clear hDw hRw
            have hRH' := Lib.hid hRel'
            have hLH' := Lib.hid hLn'
            clear hRel' hLn'
            have hc1H := Lib.hid hc1
            clear hc1
            go_wp2_with (first
              | ((with_reducible refine wpList_indexAddr (hixaH.out) ?_ ?_ ?_ ?_); rfl; rfl; rfl)
              | ((with_reducible refine wpList_load (hldaH.out) ?_ ?_ ?_); rfl; rfl)
              | ((with_reducible refine wpList_alloc (halaH.out) ?_ ?_); rfl)
              | ((with_reducible refine wpList_store (hstaH.out) ?_ ?_ ?_ ?_); rfl; rfl; rfl)
              | ((with_reducible refine wpList_load (hx1H.out) ?_ ?_ ?_); rfl; rfl)
              | ((with_reducible refine wpList_load (hxpH.out) ?_ ?_ ?_); rfl; rfl))
            refine hc1H.out.mono ?_
            rintro e wA ⟨rfl, hDA, hFA⟩
            have hRel' := hRH'.out
            have hLn' := hLH'.out
            have hq := hqH.out
            have hfin : Inv1 w d pb cb l.length (gk - 1) (.int .i64 ((m : Int) + 1)) wA := ⟨m + 1, _, _, rfl, hm2H.out, hDA, hRel', hLn', hBH.out.trans (hFA.below (B := w.heap.size) hBH.out.size (by simp; try omega))⟩
            have hfinH := Lib.hid hfin
            clear hfin
            clear hDA hFA hq hRel' hLn'
            go_wp2
            go_roundg (gk - 1)
            case measure => exact hm1H.out
            case rel => exact hfinH.out
          · by_cases hk3 : ok = 3
            · subst hk3
              have hc1 := fuse_any w1 d pb cb D hDH.out on hoknH.out.2
              have hc1H := Lib.hid hc1
              clear hc1
              go_wp2_with (first
                | ((with_reducible refine wpList_indexAddr (hixaH.out) ?_ ?_ ?_ ?_); rfl; rfl; rfl)
                | ((with_reducible refine wpList_load (hldaH.out) ?_ ?_ ?_); rfl; rfl)
                | ((with_reducible refine wpList_alloc (halaH.out) ?_ ?_); rfl)
                | ((with_reducible refine wpList_store (hstaH.out) ?_ ?_ ?_ ?_); rfl; rfl; rfl)
                | ((with_reducible refine wpList_load (hx1H.out) ?_ ?_ ?_); rfl; rfl)
                | ((with_reducible refine wpList_load (hxpH.out) ?_ ?_ ?_); rfl; rfl))
              refine hc1H.out.mono ?_
              rintro e wA ⟨rfl, hDA, hFA⟩
              have hRel' := hRelH.out.fuse' on
              have hLn' : (R.fuse on).last.length = 8 := hLnH.out
              have hq := hqH.out
              have hfin : Inv1 w d pb cb l.length (gk - 1) (.int .i64 ((m : Int) + 1)) wA := ⟨m + 1, _, _, rfl, hm2H.out, hDA, hRel', hLn', hBH.out.trans (hFA.below (B := w.heap.size) hBH.out.size (by simp; try omega))⟩
              have hfinH := Lib.hid hfin
              clear hfin
              clear hDA hFA hq hRel' hLn'
              go_wp2
              go_roundg (gk - 1)
              case measure => exact hm1H.out
              case rel => exact hfinH.out
            · have hfin : Inv1 w d pb cb l.length (gk - 1) (.int .i64 ((m : Int) + 1)) w1 := ⟨m + 1, _, _, rfl, hm2H.out, hDH.out, hRelH.out, hLnH.out, hBH.out⟩
              have hfinH := Lib.hid hfin
              clear hfin
              go_wp2_with (first
                | ((with_reducible refine wpList_indexAddr (hixaH.out) ?_ ?_ ?_ ?_); rfl; rfl; rfl)
                | ((with_reducible refine wpList_load (hldaH.out) ?_ ?_ ?_); rfl; rfl)
                | ((with_reducible refine wpList_alloc (halaH.out) ?_ ?_); rfl)
                | ((with_reducible refine wpList_store (hstaH.out) ?_ ?_ ?_ ?_); rfl; rfl; rfl)
                | ((with_reducible refine wpList_load (hx1H.out) ?_ ?_ ?_); rfl; rfl)
                | ((with_reducible refine wpList_load (hxpH.out) ?_ ?_ ?_); rfl; rfl))
              go_roundg (gk - 1)
              case measure => exact hm1H.out
              case rel => exact hfinH.out
      · have hm : m = l.length := by omega
        subst hm
        obtain ⟨wo, rfl⟩ : ∃ wo : World, wo = wr := ⟨_, rfl⟩
        obtain ⟨gk1, rfl⟩ : ∃ g : Nat, g = gk := ⟨_, rfl⟩
        have hala := run_alloc_row (P := Try.prog) arr8_zero wo
        have halb := run_alloc_row (P := Try.prog) arr8_zero (wo.alloc (.cells (flat (List.replicate 8 Pg.zero)).toArray 43))
        have hba := (Blk.new wo 43 (flat (List.replicate 8 Pg.zero))).alloc (.cells (flat (List.replicate 8 Pg.zero)).toArray 43)
        have hbb := Blk.new (wo.alloc (.cells (flat (List.replicate 8 Pg.zero)).toArray 43)) 43 (flat (List.replicate 8 Pg.zero))
        have hF5 : Fr [] wo ((wo.alloc (.cells (flat (List.replicate 8 Pg.zero)).toArray 43)).alloc (.cells (flat (List.replicate 8 Pg.zero)).toArray 43)) := ((Fr.refl [] wo).alloc _).alloc _
        have hsz : (wo.alloc (.cells (flat (List.replicate 8 Pg.zero)).toArray 43)).heap.size = wo.heap.size + 1 := by simp
        rw [hsz] at halb hbb
        obtain ⟨w4, hw4⟩ : ∃ w4, w4 = wo.alloc (.cells (flat (List.replicate 8 Pg.zero)).toArray 43) := ⟨_, rfl⟩
        rw [← hw4] at hala halb hba hbb hF5
        obtain ⟨w5, hw5⟩ : ∃ w5, w5 = w4.alloc (.cells (flat (List.replicate 8 Pg.zero)).toArray 43) := ⟨_, rfl⟩
        rw [← hw5] at halb hba hbb hF5
        have hdl := hD.dsk.lt
        have hpl := hD.pgs.lt
        have hcl := hD.map.lt
        have hbs := hB.size
        replace hD := hD.keep hF5 (by simp) (by simp) (by simp)
        replace hB := hB.trans (hF5.below (B := w.heap.size) hbs (by simp))
        generalize ha : wo.heap.size = a at *
        have hq : (w.heap.size ≤ d ∧ d < a) ∧ (w.heap.size ≤ pb ∧ pb < a) ∧ (w.heap.size ≤ cb ∧ cb < a) ∧ w.heap.size ≤ a := by have := hlowH.out; omega
        rw [← firsts_zero (fun j => D.lasts j)] at hba
        rw [← firsts_zero (fun j => (D.read j).1)] at hbb
        obtain ⟨dn, hdn⟩ : ∃ dn, dn = D.down := ⟨_, rfl⟩
        have hdc := down_any w5 d _ hD.c1
        rw [← hdn] at hdc
        have halaH := Lib.hid hala
        have halbH := Lib.hid halb
        have hbaH := Lib.hid hba
        have hbbH := Lib.hid hbb
        have hDH := Lib.hid hD
        have hBH := Lib.hid hB
        have hRelH := Lib.hid hRel
        have hLnH := Lib.hid hLn
        have hqH := Lib.hid hq
        have hdcH := Lib.hid hdc
        have hdnH := Lib.hid hdn
        clear hala halb hba hbb hD hB hRel hLn hq hdc hdn
        clear hF5 hsz hw4 hw5 hdl hpl hcl hbs ha hlt hk
        go_wp2_with (first
          | ((with_reducible refine wpList_alloc (halaH.out) ?_ ?_); rfl)
          | ((with_reducible refine wpList_alloc (halbH.out) ?_ ?_); rfl))
        refine hdcH.out.mono ?_
        rintro e _ ⟨rfl, rfl⟩
        go_wp2_with fail
        go_loopg [64] 8 (fun k i wr => Inv2 w d pb cb a (a + 1) D k i wr)
        case atStart => exact ⟨0, rfl, rfl, hDH.out, hbaH.out, hbbH.out, hBH.out⟩
        case round =>
          clear hDH hBH hbaH hbbH halaH halbH hdcH
          obtain ⟨m, rfl, hk, hD, hba, hbb, hB⟩ := hrel
          have hq := hqH.out
          by_cases hlt : m < 8
          · have hla := lasts_any wr d pb cb D hD m
            have hixa := run_index_arr (P := Try.prog) (S := 43) Try.underlying43 pgTy.size a 0 m (by omega) (by omega)
            have hixb := run_index_arr (P := Try.prog) (S := 43) Try.underlying43 pgTy.size (a + 1) 0 m (by omega) (by omega)
            rw [Int.toNat_natCast, Nat.zero_add] at hixa hixb
            have hm1 : gk - 1 < gk := by omega
            have hm2 : gk - 1 + (m + 1) = 8 := by omega
            have hlts : d < wr.heap.size ∧ pb < wr.heap.size ∧ cb < wr.heap.size ∧ a < wr.heap.size ∧ a + 1 < wr.heap.size ∧ w.heap.size ≤ wr.heap.size := ⟨hD.dsk.lt, hD.pgs.lt, hD.map.lt, hba.lt, hbb.lt, hB.size⟩
            clear hq
            have hlaH := Lib.hid hla
            have hDH := Lib.hid hD
            have hbaH := Lib.hid hba
            have hbbH := Lib.hid hbb
            have hBH := Lib.hid hB
            have hm1H := Lib.hid hm1
            have hm2H := Lib.hid hm2
            have hltsH := Lib.hid hlts
            clear hla hD hba hbb hB hm1 hm2 hlts
            go_wp2_with fail
            refine hlaH.out.mono ?_
            rintro e w6 ⟨rfl, hF6⟩
            have hq := hqH.out
            have hlts := hltsH.out
            obtain ⟨w7, hst7, hba7, hF7, hs7⟩ := store_rows (P := Try.prog) pgTy (hbaH.out.keep hF6 (by simp)) m (by rw [firsts_length]; omega) (D.lasts m)
            rw [firsts_set (fun j => D.lasts j) m] at hba7
            have hF67 : Fr [a] wr w7 := hF6.trans hF7 (by simp) (by simp)
            have hD7 := hDH.out.keep hF67 (by simp; omega) (by simp; omega) (by simp; omega)
            have hrd := read_any w7 d pb cb D hD7 m
            have hixa6 := hixa w6
            clear hF6 hF7 hs7 hD7 hq hlts
            have hFH7 := Lib.hid hF67
            clear hF67
            have hixbH := Lib.hid hixb
            clear hixa hixb
            have hst7H := Lib.hid hst7
            have hba7H := Lib.hid hba7
            have hrdH := Lib.hid hrd
            have hixa6H := Lib.hid hixa6
            clear hst7 hba7 hrd hixa6
            go_wp2_with (first
              | ((with_reducible refine wpList_indexAddr (hixa6H.out) ?_ ?_ ?_ ?_); rfl; rfl; rfl)
              | ((with_reducible refine wpList_store (hst7H.out) ?_ ?_ ?_ ?_); rfl; rfl; rfl))
            refine hrdH.out.mono ?_
            rintro e w8 ⟨rfl, hF8⟩
            have hq := hqH.out
            have hlts := hltsH.out
            have hF78 : Fr [a] wr w8 := hFH7.out.trans hF8 (by simp) (by simp)
            obtain ⟨w9, hst9, hbb9, hF9, hs9⟩ := store_rows (P := Try.prog) pgTy (hbbH.out.keep hF78 (by simp)) m (by rw [firsts_length]; omega) (D.read m).1
            rw [firsts_set (fun j => (D.read j).1) m] at hbb9
            have hs8 := hF78.size
            have hba9 := (hba7H.out.keep hF8 (by simp)).keep hF9 (by simp)
            have hF9' : Fr [a, a + 1] wr w9 := hF78.trans hF9 (by simp) (by simp)
            have hD9 := hDH.out.keep hF9' (by simp; omega) (by simp; omega) (by simp; omega)
            have hB9 := hBH.out.trans (hF9'.below (B := w.heap.size) hBH.out.size (by simp; omega))
            have hfin : Inv2 w d pb cb a (a + 1) D (gk - 1) (.int .i64 ((m : Int) + 1)) w9 := ⟨m + 1, rfl, hm2H.out, hD9, hba9, hbb9, hB9⟩
            have hixb8 := hixbH.out w8
            clear hF8 hF9 hs9 hF78 hbb9 hs8 hba9 hF9' hD9 hB9 hq hlts
            have hst9H := Lib.hid hst9
            have hfinH := Lib.hid hfin
            have hixb8H := Lib.hid hixb8
            clear hst9 hfin hixb8
            go_wp2_with (first
              | ((with_reducible refine wpList_indexAddr (hixb8H.out) ?_ ?_ ?_ ?_); rfl; rfl; rfl)
              | ((with_reducible refine wpList_store (hst9H.out) ?_ ?_ ?_ ?_); rfl; rfl; rfl))
            go_roundg (gk - 1)
            case measure => exact hm1H.out
            case rel => exact hfinH.out
          · have hm : m = 8 := by omega
            subst hm
            obtain ⟨wp, rfl⟩ : ∃ wp : World, wp = wr := ⟨_, rfl⟩
            obtain ⟨gk2, rfl⟩ : ∃ g : Nat, g = gk := ⟨_, rfl⟩
            have hca := cached_any wp d pb cb D hD
            obtain ⟨hby, hsp⟩ := SlAt.bytes hksH.out hB
            have hcr := crash_any wp d pb cb D hD _ kl hby (fun b off cp he hne => by have := hsp b off cp he hne; omega)
            have hlts : d < wp.heap.size ∧ pb < wp.heap.size ∧ cb < wp.heap.size ∧ a < wp.heap.size ∧ a + 1 < wp.heap.size ∧ w.heap.size ≤ wp.heap.size := ⟨hD.dsk.lt, hD.pgs.lt, hD.map.lt, hba.lt, hbb.lt, hB.size⟩
            clear hby hsp hD hq hk hlt
            have hcaH := Lib.hid hca
            have hcrH := Lib.hid hcr
            have hbaH := Lib.hid hba
            have hbbH := Lib.hid hbb
            have hBH := Lib.hid hB
            have hltsH := Lib.hid hlts
            clear hca hcr hba hbb hB hlts
            go_wp2_with fail
            refine hcaH.out.mono ?_
            rintro e _ ⟨rfl, rfl⟩
            go_wp2_with fail
            refine hcrH.out.mono ?_
            rintro e wc ⟨rfl, hDc, hFc⟩
            have hq := hqH.out
            have hlts := hltsH.out
            have hbac := hbaH.out.keep hFc (by simp; omega)
            have hbbc := hbbH.out.keep hFc (by simp; omega)
            have hBc := hBH.out.trans (hFc.below (B := w.heap.size) hBH.out.size (by simp; omega))
            have hc0 := cached_any wc d pb cb _ hDc
            change Calls _ _ _ _ (fun e w' => e = .returned (.int .i64 0) ∧ wc = w') at hc0
            have hd0 := down_any wc d _ hDc.c1
            change Calls _ _ _ _ (fun e w' => e = .returned (.bool false) ∧ wc = w') at hd0
            clear hcaH hcrH hbaH hbbH hBH hltsH hq hlts hFc
            have hDcH := Lib.hid hDc
            have hbacH := Lib.hid hbac
            have hbbcH := Lib.hid hbbc
            have hBcH := Lib.hid hBc
            have hc0H := Lib.hid hc0
            have hd0H := Lib.hid hd0
            clear hDc hbac hbbc hBc hc0 hd0
            go_wp2_with fail
            refine hc0H.out.mono ?_
            rintro e _ ⟨rfl, rfl⟩
            go_wp2_with fail
            refine hd0H.out.mono ?_
            rintro e _ ⟨rfl, rfl⟩
            go_wp2_with fail
            go_loopg [93, 14] 8 (fun k i t wr => Inv3 w d pb cb a (a + 1) D dn kl k i t wr)
            case atStart =>
              refine ⟨0, rfl, ?_, rfl, hDcH.out, hbacH.out, hbbcH.out, hBcH.out⟩
              cases dn <;> rfl
            case round =>
              clear hDcH hbacH hbbcH hBcH hc0H hd0H
              obtain ⟨m, rfl, rfl, hk, hD, hba, hbb, hB⟩ := hrel
              have hq := hqH.out
              by_cases hlt : m < 8
              · obtain ⟨gk3, rfl⟩ : ∃ g : Nat, g = gk := ⟨_, rfl⟩
                obtain ⟨wt, rfl⟩ : ∃ wt : World, wt = wr := ⟨_, rfl⟩
                have hm8 : m < R.last.length := by rw [hLnH.out]; exact hlt
                have hrd := read_to hD (crash_read hRelH.out kl m hm8)
                have hm1 : gk3 - 1 < gk3 := by omega
                have hm2 : gk3 - 1 + (m + 1) = 8 := by omega
                have hlts : d < wt.heap.size ∧ pb < wt.heap.size ∧ cb < wt.heap.size ∧ a < wt.heap.size ∧ a + 1 < wt.heap.size ∧ w.heap.size ≤ wt.heap.size := ⟨hD.dsk.lt, hD.pgs.lt, hD.map.lt, hba.lt, hbb.lt, hB.size⟩
                clear hq
                have hrdH := Lib.hid hrd
                have hDH := Lib.hid hD
                have hbaH := Lib.hid hba
                have hbbH := Lib.hid hbb
                have hBH := Lib.hid hB
                have hm1H := Lib.hid hm1
                have hm2H := Lib.hid hm2
                have hltsH := Lib.hid hlts
                have hm8H := Lib.hid hm8
                clear hrd hD hba hbb hB hm1 hm2 hlts hm8
                obtain ⟨t, ht⟩ : ∃ t : Nat, t = (if dn = true then 0 else chg D kl m) := ⟨_, rfl⟩
                rw [← ht]
                have htH := Lib.hid ht
                clear ht
                have htb : t < 9223372036854775807 := by
                  have := htH.out
                  have h2 := chg_le_self D kl m
                  split at this <;> omega
                go_wp2_with fail
                refine hrdH.out.mono ?_
                rintro e w6 ⟨rfl, hF6⟩
                have hal := run_alloc_pg (P := Try.prog) pgTy w6
                obtain ⟨w7, hst, hbx, hfx, hsx⟩ := store_box pgTy (Blk.new w6 31 (cl Pg.zero)) (D.aft kl m)
                have hF7 : Fr [] wt w7 := hF6.trans (((Fr.refl [] w6).alloc zbox).trans hfx (S := []) (by simp) (by simp)) (by simp) (by simp)
                have hD7 := hDH.out.keep hF7 (by simp) (by simp) (by simp)
                have hba7 := hbaH.out.keep hF7 (by simp)
                have hbb7 := hbbH.out.keep hF7 (by simp)
                have hB7 := hBH.out.trans (hF7.below (B := w.heap.size) hBH.out.size (by simp))
                obtain ⟨tb, htb7⟩ : ∃ tb, tb = w6.heap.size := ⟨_, rfl⟩
                rw [← htb7] at hal hst hbx
                obtain ⟨S, hS⟩ : ∃ S : World → Prop, ∀ x, S x ↔ Fr [] w7 x := ⟨_, fun _ => Iff.rfl⟩
                have hS0 : S w7.drew := (hS _).2 (Fr.refl _ _).drew
                obtain ⟨p, hp⟩ : ∃ p, p = D.aft kl m := ⟨_, rfl⟩
                have hldp : ∀ x, S x → (Instr.loadAt 31 (ptr tb)).run Try.prog x = .ok (pv p) x := fun x hx => by rw [hp]; exact run_load_pg pgTy (hbx.keep ((hS x).1 hx) (by simp)).range1
                have hlas : ∀ x, S x → Calls Try.prog 14 #[ptr d, .int .i64 (m : Int)] x fun e w' => e = .returned (pv p) ∧ S w' := fun x hx => by
                  have h := lasts_any x d pb cb _ (hD7.keep ((hS x).1 hx) (by simp) (by simp) (by simp)) m
                  rw [hp]
                  exact h.mono fun e w' ⟨h1, h2⟩ => ⟨h1, (hS _).2 (((hS x).1 hx).trans h2 (by simp) (by simp))⟩
                have hpe : ∀ x, (Op.equalIn 10000 31 (pv p) (pv p)).run Try.prog x = .ok true x := fun x => by
                  have h := run_equalIn_pg (P := Try.prog) pgTy p p x
                  rwa [beq_self_eq_true] at h
                have hend : ∀ x (t' : Nat), Fr [] w7 x → t' = (if dn = true then 0 else chg D kl (m + 1)) → Inv3 w d pb cb a (a + 1) D dn kl (gk3 - 1) (.int .i64 ((m : Int) + 1)) (.int .i64 (t' : Int)) x := fun x t' hx h' =>
                  ⟨m + 1, rfl, by rw [h'], hm2H.out, hD7.keep hx (by simp) (by simp) (by simp), hba7.keep hx (by simp), hbb7.keep hx (by simp), hB7.trans (hx.below (B := w.heap.size) hB7.size (by simp))⟩
                have halH := Lib.hid hal
                have hstH := Lib.hid hst
                have hldpH := Lib.hid hldp
                have hlasH := Lib.hid hlas
                have hSH := Lib.hid hS
                have hendH := Lib.hid hend
                have hbxH := Lib.hid hbx
                have hba7H := Lib.hid hba7
                have hbb7H := Lib.hid hbb7
                have hpH := Lib.hid hp
                clear hal hst hldp hlas hS hend hbx hba7 hbb7 hp
                clear hF6 hfx hsx hF7 hD7 hB7 htb7 hrdH hDH hbaH hbbH hBH
                cases hdb : dn with
                | true =>
                  subst hdb
                  go_wp2_with (first
                    | ((with_reducible refine wpList_alloc (halH.out) ?_ ?_); rfl)
                    | ((with_reducible refine wpList_store (hstH.out) ?_ ?_ ?_ ?_); rfl; rfl; rfl))
                  refine wp_region_kin S (by kernel_rfl) (by kernel_rfl) hS0 ?_
                  repeat ((first
                    | ((with_reducible refine wpHeld_load (hldpH.out) ?_ ?_ ?_); rfl; rfl)
                    | ((with_reducible refine wpHeld_call (hlasH.out) Try.func14 (by kernel_rfl) (by kernel_rfl) ?_ ?_ ?_); rfl; rfl)
                    | (refine wpHeld_not rfl ?_)
                    | (refine wpHeld_value rfl (fun w hS => by go_simp; rfl) ?_)); (try simp only [Act.put, List.setIfInBounds_toArray, List.set_cons_succ, List.set_cons_zero]))
                  refine wpHeld_nil ?_
                  intro w8 hS8
                  have hfin := hendH.out w8 t ((hSH.out _).1 hS8) (by rw [htH.out]; rfl)
                  have hfinH := Lib.hid hfin
                  clear hfin
                  go_wp2
                  go_roundg (gk3 - 1)
                  case measure => exact hm1H.out
                  case rel => exact hfinH.out
                | false =>
                  subst hdb
                  go_wp2_with (first
                    | ((with_reducible refine wpList_alloc (halH.out) ?_ ?_); rfl)
                    | ((with_reducible refine wpList_store (hstH.out) ?_ ?_ ?_ ?_); rfl; rfl; rfl))
                  refine wp_region_kin S (by kernel_rfl) (by kernel_rfl) hS0 ?_
                  repeat ((first
                    | ((with_reducible refine wpHeld_load (hldpH.out) ?_ ?_ ?_); rfl; rfl)
                    | ((with_reducible refine wpHeld_call (hlasH.out) Try.func14 (by kernel_rfl) (by kernel_rfl) ?_ ?_ ?_); rfl; rfl)
                    | (refine wpHeld_not rfl ?_)
                    | (refine wpHeld_value rfl (fun w hS => by go_simp; rfl) ?_)); (try simp only [Act.put, List.setIfInBounds_toArray, List.set_cons_succ, List.set_cons_zero]))
                  refine wpHeld_nil ?_
                  intro w8 hS8
                  go_wp2_with fail
                  have hF8 := (hSH.out _).1 hS8
                  obtain ⟨mm, hmm⟩ := aft_mix hRelH.out hdnH.out.symm kl m hm8H.out
                  rw [← hpH.out] at hmm
                  obtain ⟨q, hq0⟩ : ∃ q, q = (D.read m).1 := ⟨_, rfl⟩
                  obtain ⟨o, ho0⟩ : ∃ o, o = D.lasts m := ⟨_, rfl⟩
                  rw [← hq0, ← ho0] at hmm
                  have cp : ∀ x, Fr [] w8 x → ∀ j (hj : j < 64), (Instr.loadAt 5 (.pointer (some ⟨tb, j, none⟩))).run Try.prog x = .ok (bv p[j]) x := fun x hx j hj =>
                    run_loadAt_one (by kernel_rfl) (by rw [hpH.out, ((hbxH.out.keep hF8 (by simp)).keep hx (by simp)).cell, cl_get _ _ hj])
                  have cq : ∀ x, Fr [] w8 x → ∀ j (hj : j < 64), (Instr.loadAt 5 (.pointer (some ⟨a + 1, m * 64 + j, none⟩))).run Try.prog x = .ok (bv q[j]) x := fun x hx j hj =>
                    run_loadAt_one (by kernel_rfl) (by
                      have h := flat_cell ((hbb7H.out.keep hF8 (by simp)).keep hx (by simp)) m j (by rw [firsts_length]; exact hlt) hj
                      rw [firsts_get] at h
                      rw [hq0]; exact h)
                  have co : ∀ x, Fr [] w8 x → ∀ j (hj : j < 64), (Instr.loadAt 5 (.pointer (some ⟨a, m * 64 + j, none⟩))).run Try.prog x = .ok (bv o[j]) x := fun x hx j hj =>
                    run_loadAt_one (by kernel_rfl) (by
                      have h := flat_cell ((hba7H.out.keep hF8 (by simp)).keep hx (by simp)) m j (by rw [firsts_length]; exact hlt) hj
                      rw [firsts_get] at h
                      rw [ho0]; exact h)
                  have ixp : ∀ x (n : Nat), n < 64 → (Instr.indexAt 31 (ptr tb) (.int .i64 (n : Int))).run Try.prog x = .ok (.pointer (some ⟨tb, n, none⟩)) x := fun x n hn => by
                    have h := run_index_arr (P := Try.prog) (S := 31) (n := 1) Try.underlying31 (by kernel_rfl) tb 0 n (by omega) (by omega) x
                    rwa [Int.toNat_natCast, Nat.zero_add, Nat.mul_one] at h
                  have ixr : ∀ x (c : Nat), (Instr.indexAt 43 (ptr c) (.int .i64 (m : Int))).run Try.prog x = .ok (.pointer (some ⟨c, m * 64, none⟩)) x := fun x c => by
                    have h := run_index_arr (P := Try.prog) (S := 43) Try.underlying43 pgTy.size c 0 m (by omega) (by omega) x
                    rwa [Int.toNat_natCast, Nat.zero_add] at h
                  have ixb : ∀ x (c n : Nat), n < 64 → (Instr.indexAt 31 (.pointer (some ⟨c, m * 64, none⟩)) (.int .i64 (n : Int))).run Try.prog x = .ok (.pointer (some ⟨c, m * 64 + n, none⟩)) x := fun x c n hn => by
                    have h := run_index_arr (P := Try.prog) (S := 31) (n := 1) Try.underlying31 (by kernel_rfl) c (m * 64) n (by omega) (by omega) x
                    rwa [Int.toNat_natCast, Nat.mul_one] at h
                  have cP : ∀ x, Fr [] w8 x → (Instr.loadAt 31 (ptr tb)).run Try.prog x = .ok (pv p) x := fun x hx => by
                    rw [hpH.out]; exact run_load_pg pgTy ((hbxH.out.keep hF8 (by simp)).keep hx (by simp)).range1
                  have cO : ∀ x, Fr [] w8 x → (Instr.loadAt 31 (.pointer (some ⟨a, m * 64, none⟩))).run Try.prog x = .ok (pv o) x := fun x hx => by
                    have h := run_load_pg (P := Try.prog) pgTy (((hba7H.out.keep hF8 (by simp)).keep hx (by simp)).range m (by rw [firsts_length]; exact hlt))
                    rw [firsts_get] at h
                    rw [ho0]; exact h
                  have hpo : ∀ x, (Op.equalIn 10000 31 (pv p) (pv o)).run Try.prog x = .ok (p == o) x := fun x => run_equalIn_pg (P := Try.prog) pgTy p o x
                  have hend8 : ∀ x (t' : Nat), Fr [] w8 x → t' = t + (if p = o then 0 else 1) → Inv3 w d pb cb a (a + 1) D false kl (gk3 - 1) (.int .i64 ((m : Int) + 1)) (.int .i64 (t' : Int)) x := fun x t' hx h' =>
                    hendH.out x t' (hF8.trans hx (by simp) (by simp)) (by
                      rw [h', htH.out, hpH.out, ho0]
                      simp only [Bool.false_eq_true, if_false]
                      exact (chg_succ D kl m).symm)
                  have hF8H := Lib.hid hF8
                  clear hF8
                  have cpH := Lib.hid cp
                  have cqH := Lib.hid cq
                  have coH := Lib.hid co
                  have cPH := Lib.hid cP
                  have cOH := Lib.hid cO
                  have hpoH := Lib.hid hpo
                  have hend8H := Lib.hid hend8
                  have ixpH := Lib.hid ixp
                  have ixrH := Lib.hid ixr
                  have ixbH := Lib.hid ixb
                  have hmmH := Lib.hid hmm
                  have hq0H := Lib.hid hq0
                  have ho0H := Lib.hid ho0
                  clear cp cq co cP cO hpo hend8 ixp ixr ixb hmm hq0 ho0
                  clear hS8 hS0 hldpH hlasH hpe
                  go_loopg [18] 64 (fun k i wr => InvK w8 0 k i wr)
                  case atStart => exact ⟨0, rfl, rfl, Nat.le_refl _, Fr.refl _ _⟩
                  case round =>
                    obtain ⟨n, rfl, hk4, _, hF4⟩ := hrel
                    obtain ⟨S4, hS4⟩ : ∃ S4 : World → Prop, ∀ x, S4 x ↔ Fr [] w8 x := ⟨_, fun _ => Iff.rfl⟩
                    have hS40 : S4 wr.drew := (hS4 _).2 hF4.drew
                    by_cases hn : n < 64
                    · have l1 : ∀ x, S4 x → _ := fun x hx => cpH.out x ((hS4 x).1 hx) n hn
                      have l2 : ∀ x, S4 x → _ := fun x hx => cqH.out x ((hS4 x).1 hx) n hn
                      have i1 : ∀ x, S4 x → _ := fun x hx => ixpH.out x n hn
                      have i2 : ∀ x, S4 x → _ := fun x hx => ixrH.out x (a + 1)
                      have i3 : ∀ x, S4 x → _ := fun x hx => ixbH.out x (a + 1) n hn
                      have hnb : decide ((n : Int) < 64) = true := decide_eq_true (by omega)
                      have hm4 : gk - 1 < gk := by omega
                      have hm5 : gk - 1 + (n + 1) = 64 := by omega
                      unfold bv at l1 l2
                      have l1H := Lib.hid l1
                      have l2H := Lib.hid l2
                      have i1H := Lib.hid i1
                      have i2H := Lib.hid i2
                      have i3H := Lib.hid i3
                      have hnbH := Lib.hid hnb
                      have hm4H := Lib.hid hm4
                      have hm5H := Lib.hid hm5
                      have hF4H := Lib.hid hF4
                      clear l1 l2 i1 i2 i3 hnb hm4 hm5 hF4
                      have hSH4 := Lib.hid hS4
                      clear hS4
                      by_cases he : q[n] = p[n]
                      · rw [he] at l2H
                        go_wp2_with fail
                        refine wp_region_kin S4 (by kernel_rfl) (by kernel_rfl) hS40 ?_
                        repeat ((first
                          | ((with_reducible refine wpHeld_load (l1H.out) ?_ ?_ ?_); rfl; rfl)
                          | ((with_reducible refine wpHeld_load (l2H.out) ?_ ?_ ?_); rfl; rfl)
                          | ((with_reducible refine wpHeld_indexAddr (i1H.out) ?_ ?_ ?_ ?_); rfl; rfl; rfl)
                          | ((with_reducible refine wpHeld_indexAddr (i2H.out) ?_ ?_ ?_ ?_); rfl; rfl; rfl)
                          | ((with_reducible refine wpHeld_indexAddr (i3H.out) ?_ ?_ ?_ ?_); rfl; rfl; rfl)
                          | (refine wpHeld_value rfl (fun w hS => by go_simp; exact congrArg Value.bool hnbH.out) ?_)
                          | (refine wpHeld_not rfl ?_)
                          | (refine wpHeld_value rfl (fun w hS => by go_simp; rfl) ?_)); (try simp only [Act.put, List.setIfInBounds_toArray, List.set_cons_succ, List.set_cons_zero]))
                        refine wpHeld_nil ?_
                        intro w9 hS9
                        have hF9 := (hSH4.out _).1 hS9
                        go_wp2_with fail
                        go_roundg (gk - 1)
                        case measure => exact hm4H.out
                        case rel => exact ⟨n + 1, rfl, hm5H.out, Nat.zero_le _, hF9⟩
                      · have heb : ((p[n].toNat : Int) == (q[n].toNat : Int)) = false := by
                          rw [beq_eq_false_iff_ne]
                          intro h
                          exact he (UInt8.toNat_inj.1 (Int.ofNat_inj.1 h).symm)
                        have hebH := Lib.hid heb
                        clear heb
                        go_wp2_with fail
                        refine wp_region_kin S4 (by kernel_rfl) (by kernel_rfl) hS40 ?_
                        repeat ((first
                          | ((with_reducible refine wpHeld_load (l1H.out) ?_ ?_ ?_); rfl; rfl)
                          | ((with_reducible refine wpHeld_load (l2H.out) ?_ ?_ ?_); rfl; rfl)
                          | ((with_reducible refine wpHeld_indexAddr (i1H.out) ?_ ?_ ?_ ?_); rfl; rfl; rfl)
                          | ((with_reducible refine wpHeld_indexAddr (i2H.out) ?_ ?_ ?_ ?_); rfl; rfl; rfl)
                          | ((with_reducible refine wpHeld_indexAddr (i3H.out) ?_ ?_ ?_ ?_); rfl; rfl; rfl)
                          | (refine wpHeld_value rfl (fun w hS => by go_simp; exact congrArg Value.bool hnbH.out) ?_)
                          | (refine wpHeld_value rfl (fun w hS => by go_simp; exact congrArg Value.bool hebH.out) ?_)
                          | (refine wpHeld_not rfl ?_)
                          | (refine wpHeld_value rfl (fun w hS => by go_simp; rfl) ?_)); (try simp only [Act.put, List.setIfInBounds_toArray, List.set_cons_succ, List.set_cons_zero]))
                        refine wpHeld_nil ?_
                        intro w9 hS9
                        have hF9 := (hSH4.out _).1 hS9
                        have hn64 : n ≤ 64 := by omega
                        have hold : ∀ j (h : j < 64), n ≤ j → p[j] = o[j] := fun j h h' => by
                          obtain ⟨mm, hmm⟩ := (⟨mm, hmmH.out⟩ : ∃ mm, p = Pg.mix q o mm)
                          subst hmm
                          exact mix_old q o mm n hn (fun e => he e.symm) j h' h
                        go_wp2_with fail
                        obtain ⟨gk4, rfl⟩ : ∃ g : Nat, g = gk := ⟨_, rfl⟩
                        obtain ⟨wn, rfl⟩ : ∃ x : World, x = wr := ⟨_, rfl⟩
                        have holdH := Lib.hid hold
                        have hn64H := Lib.hid hn64
                        clear hold hn64
                        clear hS9 hSH4 hS40
                        go_loopg [18] (64 - n) (fun k i wr => InvK w8 n k i wr)
                        case atStart => exact ⟨n, rfl, by have := hn64H.out; omega, Nat.le_refl _, hF9⟩
                        case round =>
                          obtain ⟨n2, rfl, hk5, hlo, hF5⟩ := hrel
                          obtain ⟨S5, hS5⟩ : ∃ S5 : World → Prop, ∀ x, S5 x ↔ Fr [] w8 x := ⟨_, fun _ => Iff.rfl⟩
                          by_cases hn2 : n2 < 64
                          · have hS50 : S5 wr.drew := (hS5 _).2 hF5.drew
                            have l1 : ∀ x, S5 x → _ := fun x hx => cpH.out x ((hS5 x).1 hx) n2 hn2
                            have l2 : ∀ x, S5 x → _ := fun x hx => coH.out x ((hS5 x).1 hx) n2 hn2
                            have i1 : ∀ x, S5 x → _ := fun x hx => ixpH.out x n2 hn2
                            have i2 : ∀ x, S5 x → _ := fun x hx => ixrH.out x a
                            have i3 : ∀ x, S5 x → _ := fun x hx => ixbH.out x a n2 hn2
                            have hm6 : gk - 1 < gk := by omega
                            have hm7 : gk - 1 + (n2 + 1) = 64 := by omega
                            have hm8 : n ≤ n2 + 1 := by omega
                            unfold bv at l1 l2
                            rw [← holdH.out n2 hn2 hlo] at l2
                            have l1H := Lib.hid l1
                            have l2H := Lib.hid l2
                            have i1H := Lib.hid i1
                            have i2H := Lib.hid i2
                            have i3H := Lib.hid i3
                            have hm6H := Lib.hid hm6
                            have hm7H := Lib.hid hm7
                            have hm8H := Lib.hid hm8
                            have hloH := Lib.hid hlo
                            clear l1 l2 i1 i2 i3 hm6 hm7 hm8 hlo
                            have hSH5 := Lib.hid hS5
                            clear hS5 hF5
                            go_wp2_with fail
                            refine wp_region_kin S5 (by kernel_rfl) (by kernel_rfl) hS50 ?_
                            repeat ((first
                              | ((with_reducible refine wpHeld_load (l1H.out) ?_ ?_ ?_); rfl; rfl)
                              | ((with_reducible refine wpHeld_load (l2H.out) ?_ ?_ ?_); rfl; rfl)
                              | ((with_reducible refine wpHeld_indexAddr (i1H.out) ?_ ?_ ?_ ?_); rfl; rfl; rfl)
                              | ((with_reducible refine wpHeld_indexAddr (i2H.out) ?_ ?_ ?_ ?_); rfl; rfl; rfl)
                              | ((with_reducible refine wpHeld_indexAddr (i3H.out) ?_ ?_ ?_ ?_); rfl; rfl; rfl)
                              | (refine wpHeld_not rfl ?_)
                              | (refine wpHeld_value rfl (fun w hS => by go_simp; rfl) ?_)); (try simp only [Act.put, List.setIfInBounds_toArray, List.set_cons_succ, List.set_cons_zero]))
                            refine wpHeld_nil ?_
                            intro w10 hS10
                            have hF10 := (hSH5.out _).1 hS10
                            go_wp2_with fail
                            go_roundg (gk - 1)
                            case measure => exact hm6H.out
                            case rel => exact ⟨n2 + 1, rfl, hm7H.out, hm8H.out, hF10⟩
                          · have hS50 : S5 wr.drew := (hS5 _).2 hF5.drew
                            have l1 : ∀ x, S5 x → _ := fun x hx => cPH.out x ((hS5 x).1 hx)
                            have l2 : ∀ x, S5 x → _ := fun x hx => cOH.out x ((hS5 x).1 hx)
                            have i2 : ∀ x, S5 x → _ := fun x hx => ixrH.out x a
                            have hpoe := hpoH.out
                            by_cases hpo1 : p = o
                            · have hpb : (p == o) = true := by rw [hpo1]; exact beq_self_eq_true _
                              rw [hpb] at hpoe
                              have hfin : ∀ x, Fr [] w8 x → _ := fun x hx => hend8H.out x t hx (by rw [if_pos hpo1]; rfl)
                              clear hpo1 hpb
                              have l1H := Lib.hid l1
                              have l2H := Lib.hid l2
                              have i2H := Lib.hid i2
                              have hloH := Lib.hid hlo
                              have hfinH := Lib.hid hfin
                              clear l1 l2 i2 hlo hfin
                              have hSH5 := Lib.hid hS5
                              clear hS5 hF5
                              go_wp2_with fail
                              refine wp_region_kin S5 (by kernel_rfl) (by kernel_rfl) hS50 ?_
                              repeat ((first
                                | ((with_reducible refine wpHeld_load (l1H.out) ?_ ?_ ?_); rfl; rfl)
                                | ((with_reducible refine wpHeld_load (l2H.out) ?_ ?_ ?_); rfl; rfl)
                                | ((with_reducible refine wpHeld_indexAddr (i2H.out) ?_ ?_ ?_ ?_); rfl; rfl; rfl)
                                | (refine wpHeld_not rfl ?_)
                                | (refine wpHeld_value rfl (fun w hS => by go_simp; rfl) ?_)); (try simp only [Act.put, List.setIfInBounds_toArray, List.set_cons_succ, List.set_cons_zero]))
                              refine wpHeld_nil ?_
                              intro w10 hS10
                              have hF10 := (hSH5.out _).1 hS10
                              have hfin10 := hfinH.out w10 hF10
                              have hfin10H := Lib.hid hfin10
                              clear hfin10
                              go_wp2_with fail
                              go_roundg (gk3 - 1)
                              case measure => exact hm1H.out
                              case rel => exact hfin10H.out
                            · have hpb : (p == o) = false := by rw [beq_eq_false_iff_ne]; exact hpo1
                              rw [hpb] at hpoe
                              have hfin : ∀ x, Fr [] w8 x → _ := fun x hx => hend8H.out x (t + 1) hx (by rw [if_neg hpo1])
                              rw [Int.natCast_add] at hfin
                              clear hpo1 hpb
                              have l1H := Lib.hid l1
                              have l2H := Lib.hid l2
                              have i2H := Lib.hid i2
                              have hloH := Lib.hid hlo
                              have hfinH := Lib.hid hfin
                              clear l1 l2 i2 hlo hfin
                              have hSH5 := Lib.hid hS5
                              clear hS5 hF5
                              go_wp2_with fail
                              refine wp_region_kin S5 (by kernel_rfl) (by kernel_rfl) hS50 ?_
                              repeat ((first
                                | ((with_reducible refine wpHeld_load (l1H.out) ?_ ?_ ?_); rfl; rfl)
                                | ((with_reducible refine wpHeld_load (l2H.out) ?_ ?_ ?_); rfl; rfl)
                                | ((with_reducible refine wpHeld_indexAddr (i2H.out) ?_ ?_ ?_ ?_); rfl; rfl; rfl)
                                | (refine wpHeld_not rfl ?_)
                                | (refine wpHeld_value rfl (fun w hS => by go_simp; rfl) ?_)); (try simp only [Act.put, List.setIfInBounds_toArray, List.set_cons_succ, List.set_cons_zero]))
                              refine wpHeld_nil ?_
                              intro w10 hS10
                              have hF10 := (hSH5.out _).1 hS10
                              have hfin10 := hfinH.out w10 hF10
                              have hfin10H := Lib.hid hfin10
                              clear hfin10
                              go_wp2_with fail
                              go_roundg (gk3 - 1)
                              case measure => exact hm1H.out
                              case rel => exact hfin10H.out
                    · have hnb : decide ((n : Int) < 64) = false := decide_eq_false (by omega)
                      have hnbH := Lib.hid hnb
                      have hF4H := Lib.hid hF4
                      clear hnb hF4
                      have hSH4 := Lib.hid hS4
                      clear hS4
                      go_wp2_with fail
                      refine wp_region_kin S4 (by kernel_rfl) (by kernel_rfl) hS40 ?_
                      repeat ((first
                        | (refine wpHeld_value rfl (fun w hS => by go_simp; exact congrArg Value.bool hnbH.out) ?_)
                        | (refine wpHeld_not rfl ?_)
                        | (refine wpHeld_value rfl (fun w hS => by go_simp; rfl) ?_)); (try simp only [Act.put, List.setIfInBounds_toArray, List.set_cons_succ, List.set_cons_zero]))
                      refine wpHeld_nil ?_
                      intro w9 hS9
                      have hF9 := (hSH4.out _).1 hS9
                      have hn64 : n ≤ 64 := by omega
                      have hold : ∀ j (h : j < 64), n ≤ j → p[j] = o[j] := fun j h h' => by omega
                      go_wp2_with fail
                      obtain ⟨gk4, rfl⟩ : ∃ g : Nat, g = gk := ⟨_, rfl⟩
                      obtain ⟨wn, rfl⟩ : ∃ x : World, x = wr := ⟨_, rfl⟩
                      have holdH := Lib.hid hold
                      have hn64H := Lib.hid hn64
                      clear hold hn64
                      clear hS9 hSH4 hS40
                      go_loopg [18] (64 - n) (fun k i wr => InvK w8 n k i wr)
                      case atStart => exact ⟨n, rfl, by have := hn64H.out; omega, Nat.le_refl _, hF9⟩
                      case round =>
                        obtain ⟨n2, rfl, hk5, hlo, hF5⟩ := hrel
                        obtain ⟨S5, hS5⟩ : ∃ S5 : World → Prop, ∀ x, S5 x ↔ Fr [] w8 x := ⟨_, fun _ => Iff.rfl⟩
                        by_cases hn2 : n2 < 64
                        · have hS50 : S5 wr.drew := (hS5 _).2 hF5.drew
                          have l1 : ∀ x, S5 x → _ := fun x hx => cpH.out x ((hS5 x).1 hx) n2 hn2
                          have l2 : ∀ x, S5 x → _ := fun x hx => coH.out x ((hS5 x).1 hx) n2 hn2
                          have i1 : ∀ x, S5 x → _ := fun x hx => ixpH.out x n2 hn2
                          have i2 : ∀ x, S5 x → _ := fun x hx => ixrH.out x a
                          have i3 : ∀ x, S5 x → _ := fun x hx => ixbH.out x a n2 hn2
                          have hm6 : gk - 1 < gk := by omega
                          have hm7 : gk - 1 + (n2 + 1) = 64 := by omega
                          have hm8 : n ≤ n2 + 1 := by omega
                          unfold bv at l1 l2
                          rw [← holdH.out n2 hn2 hlo] at l2
                          have l1H := Lib.hid l1
                          have l2H := Lib.hid l2
                          have i1H := Lib.hid i1
                          have i2H := Lib.hid i2
                          have i3H := Lib.hid i3
                          have hm6H := Lib.hid hm6
                          have hm7H := Lib.hid hm7
                          have hm8H := Lib.hid hm8
                          have hloH := Lib.hid hlo
                          clear l1 l2 i1 i2 i3 hm6 hm7 hm8 hlo
                          have hSH5 := Lib.hid hS5
                          clear hS5 hF5
                          go_wp2_with fail
                          refine wp_region_kin S5 (by kernel_rfl) (by kernel_rfl) hS50 ?_
                          repeat ((first
                            | ((with_reducible refine wpHeld_load (l1H.out) ?_ ?_ ?_); rfl; rfl)
                            | ((with_reducible refine wpHeld_load (l2H.out) ?_ ?_ ?_); rfl; rfl)
                            | ((with_reducible refine wpHeld_indexAddr (i1H.out) ?_ ?_ ?_ ?_); rfl; rfl; rfl)
                            | ((with_reducible refine wpHeld_indexAddr (i2H.out) ?_ ?_ ?_ ?_); rfl; rfl; rfl)
                            | ((with_reducible refine wpHeld_indexAddr (i3H.out) ?_ ?_ ?_ ?_); rfl; rfl; rfl)
                            | (refine wpHeld_not rfl ?_)
                            | (refine wpHeld_value rfl (fun w hS => by go_simp; rfl) ?_)); (try simp only [Act.put, List.setIfInBounds_toArray, List.set_cons_succ, List.set_cons_zero]))
                          refine wpHeld_nil ?_
                          intro w10 hS10
                          have hF10 := (hSH5.out _).1 hS10
                          go_wp2_with fail
                          go_roundg (gk - 1)
                          case measure => exact hm6H.out
                          case rel => exact ⟨n2 + 1, rfl, hm7H.out, hm8H.out, hF10⟩
                        · have hS50 : S5 wr.drew := (hS5 _).2 hF5.drew
                          have l1 : ∀ x, S5 x → _ := fun x hx => cPH.out x ((hS5 x).1 hx)
                          have l2 : ∀ x, S5 x → _ := fun x hx => cOH.out x ((hS5 x).1 hx)
                          have i2 : ∀ x, S5 x → _ := fun x hx => ixrH.out x a
                          have hpoe := hpoH.out
                          by_cases hpo1 : p = o
                          · have hpb : (p == o) = true := by rw [hpo1]; exact beq_self_eq_true _
                            rw [hpb] at hpoe
                            have hfin : ∀ x, Fr [] w8 x → _ := fun x hx => hend8H.out x t hx (by rw [if_pos hpo1]; rfl)
                            clear hpo1 hpb
                            have l1H := Lib.hid l1
                            have l2H := Lib.hid l2
                            have i2H := Lib.hid i2
                            have hloH := Lib.hid hlo
                            have hfinH := Lib.hid hfin
                            clear l1 l2 i2 hlo hfin
                            have hSH5 := Lib.hid hS5
                            clear hS5 hF5
                            go_wp2_with fail
                            refine wp_region_kin S5 (by kernel_rfl) (by kernel_rfl) hS50 ?_
                            repeat ((first
                              | ((with_reducible refine wpHeld_load (l1H.out) ?_ ?_ ?_); rfl; rfl)
                              | ((with_reducible refine wpHeld_load (l2H.out) ?_ ?_ ?_); rfl; rfl)
                              | ((with_reducible refine wpHeld_indexAddr (i2H.out) ?_ ?_ ?_ ?_); rfl; rfl; rfl)
                              | (refine wpHeld_not rfl ?_)
                              | (refine wpHeld_value rfl (fun w hS => by go_simp; rfl) ?_)); (try simp only [Act.put, List.setIfInBounds_toArray, List.set_cons_succ, List.set_cons_zero]))
                            refine wpHeld_nil ?_
                            intro w10 hS10
                            have hF10 := (hSH5.out _).1 hS10
                            have hfin10 := hfinH.out w10 hF10
                            have hfin10H := Lib.hid hfin10
                            clear hfin10
                            go_wp2_with fail
                            go_roundg (gk3 - 1)
                            case measure => exact hm1H.out
                            case rel => exact hfin10H.out
                          · have hpb : (p == o) = false := by rw [beq_eq_false_iff_ne]; exact hpo1
                            rw [hpb] at hpoe
                            have hfin : ∀ x, Fr [] w8 x → _ := fun x hx => hend8H.out x (t + 1) hx (by rw [if_neg hpo1])
                            rw [Int.natCast_add] at hfin
                            clear hpo1 hpb
                            have l1H := Lib.hid l1
                            have l2H := Lib.hid l2
                            have i2H := Lib.hid i2
                            have hloH := Lib.hid hlo
                            have hfinH := Lib.hid hfin
                            clear l1 l2 i2 hlo hfin
                            have hSH5 := Lib.hid hS5
                            clear hS5 hF5
                            go_wp2_with fail
                            refine wp_region_kin S5 (by kernel_rfl) (by kernel_rfl) hS50 ?_
                            repeat ((first
                              | ((with_reducible refine wpHeld_load (l1H.out) ?_ ?_ ?_); rfl; rfl)
                              | ((with_reducible refine wpHeld_load (l2H.out) ?_ ?_ ?_); rfl; rfl)
                              | ((with_reducible refine wpHeld_indexAddr (i2H.out) ?_ ?_ ?_ ?_); rfl; rfl; rfl)
                              | (refine wpHeld_not rfl ?_)
                              | (refine wpHeld_value rfl (fun w hS => by go_simp; rfl) ?_)); (try simp only [Act.put, List.setIfInBounds_toArray, List.set_cons_succ, List.set_cons_zero]))
                            refine wpHeld_nil ?_
                            intro w10 hS10
                            have hF10 := (hSH5.out _).1 hS10
                            have hfin10 := hfinH.out w10 hF10
                            have hfin10H := Lib.hid hfin10
                            clear hfin10
                            go_wp2_with fail
                            go_roundg (gk3 - 1)
                            case measure => exact hm1H.out
                            case rel => exact hfin10H.out
              · have hm : m = 8 := by omega
                subst hm
                have hcc := chg_cache hRelH.out kl
                rw [hLnH.out] at hcc
                obtain ⟨t, ht⟩ : ∃ t : Nat, t = (if dn = true then 0 else chg D kl 8) := ⟨_, rfl⟩
                have ht1 : t ≤ D.cache.length := by rw [ht]; split <;> omega
                have ht2 : t ≤ kl.length := by rw [ht]; split <;> omega
                rw [← ht]
                generalize D.cache.length = cc at *
                have ht3 : (t : Int) ≤ (cc : Int) := by omega
                have ht4 : (t : Int) ≤ (kl.length : Int) := by omega
                have hkp : ¬ (kl.length : Int) < 0 := by omega
                clear ht hcc ht1 ht2 hq hlt hk hD hba hbb
                have hBH := Lib.hid hB
                clear hB
                go_wp2
                go_ret
                exact ⟨rfl, hBH.out⟩

theorem own : ownKnob Try.prog.godebug = none := by kernel_rfl
theorem laidOut : laidOutB Try.prog = true := by kernel_rfl
theorem lifted (os : Os) (started : os.Started) (H : Type) (enc : TypeId × Value → H) :
    ReturnsInHanded {} Try.checked os 4 .any (Rows.diskKeepsSpec.pre6 enc Try.prog Try.f4 Rows.diskKeepsRow.domain false) (Rows.diskKeepsSpec.post enc Try.prog Try.f4 false true false false) := by
  refine returnsInHanded_of_change (C := Try.checked) own started (by kernel_rfl) Try.func4
    (ChangeSpec.witness6 (enc := enc) (C := Try.checked) false ⟨#[], #[.slice none 0 0, .slice none 0 0], []⟩ 80 (by kernel_rfl) (by kernel_rfl) (by kernel_rfl) (by kernel_rfl)) ?_
  intro W base args ds gs before hval0 hW hcnd _
  have hval : ∀ (j : Nat) t v, Try.f4.params[j]? = some t → args[j]? = some v → Value.okWide Try.prog W .any base t v := hval0
  have hW' := hW
  obtain ⟨p, q, hA0, hV, rfl, hfz, hnd⟩ := hW
  have hA : DataW.TrodAll enc Try.prog W 0 (fun _ => true) true Try.f4.params.toList args.toList ds p := hA0
  rw [Try.params4] at hA hval
  obtain ⟨v0, vs0, d0, ds0, p0, q0, hargs, rfl, rfl, h0, r0⟩ := trodAll_cons hA
  obtain ⟨v1, vs1, d1, ds1, p1, q1, rfl, rfl, rfl, h1, r1⟩ := trodAll_cons r0
  obtain ⟨rfl, rfl, rfl⟩ := trodAll_nil r1
  obtain rfl : args = #[v0, v1] := by cases args; simp_all
  obtain ⟨rfl, rfl⟩ := trodVars_none hV
  have k0 := h0
  have lt0 : ∀ x ∈ p0, x.block < W.heap.size := by obtain ⟨m, hm⟩ := k0; exact DataW.trod_lt m _ _ _ hm
  have k1 := h1
  have lt1 : ∀ x ∈ p1, x.block < W.heap.size := by obtain ⟨m, hm⟩ := k1; exact DataW.trod_lt m _ _ _ hm
  obtain ⟨x0, s0, o0⟩ := open_ops (hval 0 39 v0 rfl rfl) h0
  obtain ⟨x1, s1⟩ := open_bytes Try.underlying22 Try.underlying5 (by kernel_rfl) (hval 1 22 v1 rfl rfl) h1
  clear hA0 hval0
  refine (walk v0 v1 x0 x1 W s0 o0 s1).mono fun e W' ⟨he, bel⟩ => ?_
  subst he
  exact ⟨_, rfl, _, _, _, [], _, [], hW', trodAll_mk1 (shut_bool Try.underlying4 _), (trodAll_cons_mk (Below.trod laidOut (by kernel_rfl) (of_decide_eq_true (by kernel_rfl)) k0 bel lt0) (trodAll_cons_mk (Below.trod laidOut (by kernel_rfl) (of_decide_eq_true (by kernel_rfl)) k1 bel lt1) trodAll_mk0)), rfl, bel.frame _, fun h => by cases h⟩

theorem over : Rows.diskKeepsRow.holds Try.pinned (OpenSpec.ofChange Rows.diskKeepsSpec) :=
  OpenClaim.holds_of_wide 4 Try.f4 rfl rfl rfl rfl rfl rfl rfl ⟨rfl, rfl, rfl, rfl, rfl⟩ rfl rfl rfl rfl rfl (by kernel_rfl) Try.func4 (by kernel_rfl)
    (of_decide_eq_true (by kernel_rfl)) (by unfold Func.isWrapper; first | (rw [if_pos (by decide +kernel)]; kernel_rfl) | (rw [if_neg (by decide +kernel)]; exact ⟨rfl, rfl⟩))
    (fun os started H enc _ => lifted os started H enc)
end Go.Proofs.Ytdikkkappcpdcaa.diskKeeps
namespace Go.Proofs.Ytdikkkappcpdcaa

/-- DiskKeeps. -/
theorem diskKeeps_holds : Rows.DiskKeepsSaid := diskKeeps.over
#print axioms diskKeeps_holds
end Go.Proofs.Ytdikkkappcpdcaa
