/- The document's disk (narthexref03): a crash. -/
import Derived.Test.YtdikkkappcpdcaaRef3d
import Derived.Test.YtdikkkappcpdcaaDsk5
namespace Go.Proofs
open Go Go.RowKit Go.Nx
set_option maxRecDepth 100000
set_option linter.unusedVariables false

theorem cl_set (p : Pg) (j : Nat) (hj : j < 64) (c : UInt8) : (cl p).set j (bv c) = cl (p.set j c) := by
  apply List.ext_getElem?
  intro k
  rw [List.getElem?_set]
  by_cases hk : k < 64
  · rw [cl_get _ _ hk, cl_get _ _ hk, cl_length]
    by_cases e : j = k
    · subst e; simp [hj]
    · simp [e]
  · rw [List.getElem?_eq_none (by rw [cl_length]; omega), List.getElem?_eq_none (by rw [cl_length]; omega), if_neg (by omega)]
theorem flat_split (l : List Pg) (i : Nat) (hi : i < l.length) : flat l = flat (l.take i) ++ (cl l[i] ++ flat (l.drop (i + 1))) := by
  rw [← flat_cons, ← List.drop_eq_getElem_cons hi, ← flat_append, List.take_append_drop]
theorem flat_set_byte (l : List Pg) (i j : Nat) (hi : i < l.length) (hj : j < 64) (c : UInt8) : (flat l).set (i * 64 + j) (bv c) = flat (l.set i (l[i].set j c)) := by
  have htl : (flat (l.take i)).length = i * 64 := by rw [flat_length, List.length_take, Nat.min_eq_left (by omega)]
  rw [flat_split l i hi, List.set_append_right _ _ (by omega), htl, show i * 64 + j - i * 64 = j by omega, List.set_append_left _ _ (by rw [cl_length]; exact hj), cl_set _ _ hj]
  rw [List.set_eq_take_append_cons_drop, if_pos hi, flat_append, flat_cons]
theorem mix_zero (q p : Pg) : Pg.mix q p 0 = p := by
  apply Vector.ext; intro i hi; simp [Pg.mix]
theorem mix_succ (q p : Pg) (m : Nat) (hm : m < 64) : (Pg.mix q p m).set m q[m] = Pg.mix q p (m + 1) := by
  apply Vector.ext
  intro i hi
  rw [Vector.getElem_set]
  simp only [Pg.mix, Vector.getElem_ofFn]
  by_cases e : m = i
  · subst e; simp
  · have : (i < m + 1) ↔ (i < m) := by omega
    simp [e, this]

def RM.kp (R : RM) (ch : List UInt8) (j : Nat) : Nat := if h : cnt R.on j < ch.length then ch[cnt R.on j].toNat % 65 else 0
def RM.cr (R : RM) (ch : List UInt8) (k : Nat) : List Pg := R.last.mapIdx fun j p => if j < k ∧ R.on.getD j false = true then Pg.mix (R.new.getD j Pg.zero) p (R.kp ch j) else p
theorem RM.cr_len (R : RM) (ch : List UInt8) (k : Nat) : (R.cr ch k).length = R.last.length := by simp [RM.cr]
theorem RM.cr_zero (R : RM) (ch : List UInt8) : R.cr ch 0 = R.last := by
  apply List.ext_getElem?; intro j; simp [RM.cr, List.getElem?_mapIdx]
theorem RM.cr_get (R : RM) (ch : List UInt8) (k : Nat) (h : k < R.last.length) : (R.cr ch k)[k]'(by rw [RM.cr_len]; exact h) = R.last[k] := by simp [RM.cr]
theorem RM.cr_off (R : RM) (ch : List UInt8) (k : Nat) (h : R.on.getD k false = false) : R.cr ch k = R.cr ch (k + 1) := by
  apply List.ext_getElem?; intro j
  simp only [RM.cr, List.getElem?_mapIdx]
  congr 1; funext p
  by_cases e : j = k
  · subst e; simp only [h]; simp
  · have : (j < k + 1) ↔ (j < k) := by omega
    simp [this]
theorem RM.cr_on (R : RM) (ch : List UInt8) (k : Nat) (hk : k < R.last.length) (h : R.on.getD k false = true) : (R.cr ch k).set k (Pg.mix (R.new.getD k Pg.zero) R.last[k] (R.kp ch k)) = R.cr ch (k + 1) := by
  apply List.ext_getElem?; intro j
  simp only [RM.cr, List.getElem?_set, List.getElem?_mapIdx, List.length_mapIdx]
  by_cases e : k = j
  · subst e
    have h' : R.on[k]?.getD false = true := by simpa [List.getD] using h
    simp [hk, h', List.getD]
  · have : (j < k + 1) ↔ (j < k) := by omega
    simp [e, this]

def RM.crash (R : RM) (ch : List UInt8) : RM := { R with last := R.cr ch R.last.length, on := R.fo R.last.length, left := -1, down := false }

def RCrashInv (w : World) (r lb nb ob : Nat) (R : RM) (ch : List UInt8) (g : Nat) (k i : Value) (wr : World) : Prop :=
  ∃ n : Nat, k = .int .i64 (cnt R.on n) ∧ i = .int .i64 n ∧ g + n = R.last.length ∧ RefAt wr r lb nb ob { R with last := R.cr ch n, on := R.fo n } ∧ Fr [lb, ob] w wr
def RCopyInv (w : World) (r lb nb ob : Nat) (E : RM) (L : List Pg) (n : Nat) (q p : Pg) (K : Nat) (g : Nat) (i : Value) (wr : World) : Prop :=
  ∃ m : Nat, i = .int .i64 m ∧ g + m = K ∧ RefAt wr r lb nb ob { E with last := L.set n (Pg.mix q p m) } ∧ Fr [lb] w wr

theorem tmod65 (b : UInt8) : (wrap64 (b.toNat : Int)).tmod 65 = ((b.toNat % 65 : Nat) : Int) := by
  have hb : b.toNat < 256 := b.toNat_lt
  have e : wrap64 (b.toNat : Int) = (b.toNat : Int) := by unfold wrap64; omega
  rw [e, Int.tmod_eq_emod_of_nonneg (by omega)]
  omega

set_option maxHeartbeats 3200000 in
theorem rcrash_any (w : World) (r lb nb ob : Nat) (R : RM) (h : RefAt w r lb nb ob R) (vc : Value) (ch : List UInt8) (hch : BytesAt w vc ch) (hsep : ∀ b off cap, vc = .slice (some ⟨b, off, none⟩) ch.length cap → ch ≠ [] → b ≠ r ∧ b ≠ lb ∧ b ≠ nb ∧ b ≠ ob) :
    Calls Try.prog 26 #[ptr r, vc] w fun e w' => e = .returned (.tuple #[]) ∧ RefAt w' r lb nb ob (R.crash ch) ∧ Fr [r, lb, ob] w w' := by
  obtain ⟨va, vcap, rfl, hcc⟩ := hch
  have hrl := h.rcd.lt
  have hll := h.l.lt
  have hnl := h.n.lt
  have hol := h.o.lt
  have hlen := h.len
  obtain ⟨n1, n2, n3, n4, n5, n6⟩ := h.ne
  have hH := Lib.hid h
  have hccH := Lib.hid hcc
  clear h hcc
  go_enter Try.func26, Try.ntmps26
  go_wp2_with fail
  go_loopg [4, 5] R.last.length (fun g k i wr => RCrashInv w r lb nb ob R ch g k i wr)
  case atStart => exact ⟨0, by simp [cnt], rfl, rfl, by rw [RM.cr_zero, RM.fo_zero]; exact hH.out, .refl _ _⟩
  case round =>
    obtain ⟨n, rfl, rfl, hg, hRr, hFr⟩ := hrel
    have hl2 := RM.cr_len R ch n
    have e0 : wr.cell? ⟨r, 0, none⟩ = _ := hRr.rcd.cell 0
    have e2 : wr.cell? ⟨r, 2, none⟩ = _ := hRr.rcd.cell 2
    simp only [List.getElem?_cons_zero, List.getElem?_cons_succ, hl2] at e0 e2
    by_cases hlt : n < R.last.length
    · have hon : n < R.on.length := by have := hRr.ol; simp only [hl2, RM.fo_len] at this; omega
      have hnew : n < R.new.length := by have := hRr.nl; simp only [hl2] at this; omega
      have hcb := bs_cell hRr.o n (by rw [RM.fo_len]; exact hon)
      rw [show ({ R with last := R.cr ch n, on := R.fo n } : RM).on = R.fo n from rfl, RM.fo_get] at hcb
      have hiI : (n : Int) < (R.last.length : Int) := by omega
      have hcs := cnt_succ R.on n hon
      have hcl := cnt_le R.on n
      cases hb : R.on.getD n false with
      | false =>
        rw [hb] at hcb hcs
        have hfin : RCrashInv w r lb nb ob R ch (gk - 1) (.int .i64 (cnt R.on n)) (.int .i64 ((n : Int) + 1)) wr ∧ gk - 1 < gk := by
          refine ⟨⟨n + 1, by rw [hcs]; simp, rfl, by omega, ?_, hFr⟩, by omega⟩
          rw [← RM.cr_off R ch n hb, ← RM.fo_off R n hb]; exact hRr
        have hfinH := Lib.hid hfin
        clear hfin
        clear hRr hFr hl2 hb hcs
        go_wp2
        go_roundg (gk - 1)
        case measure => exact hfinH.out.2
        case rel => exact hfinH.out.1
      | true =>
        rw [hb] at hcb hcs
        have hrp := RM.cr_get R ch n hlt
        have hnx : R.new.getD n Pg.zero = R.new[n] := by simp [List.getD, hnew]
        have hset := RM.cr_on R ch n hlt hb
        rw [hnx] at hset
        have hfos := RM.fo_set R n
        obtain ⟨K, hK⟩ : ∃ K, R.kp ch n = K := ⟨_, rfl⟩
        rw [hK] at hset
        have hK64 : K ≤ 64 := by rw [← hK]; unfold RM.kp; split <;> omega
        have hmix0 : (R.cr ch n).set n (Pg.mix R.new[n] R.last[n] 0) = R.cr ch n := by
          rw [mix_zero, ← hrp]; exact List.set_getElem_self _
        by_cases hc : cnt R.on n < ch.length
        · have hcI : (cnt R.on n : Int) < (ch.length : Int) := by omega
          have hcne : ch ≠ [] := by intro e; rw [e] at hc; simp at hc
          obtain ⟨cbk, coff, rfl, hcb1, hcb2⟩ := hccH.out hcne
          obtain ⟨hs1, hs2, hs3, hs4⟩ := hsep cbk coff vcap rfl hcne
          have hby : wr.cell? ⟨cbk, coff + cnt R.on n, none⟩ = some (bv ch[cnt R.on n]) := (hFr.cell hcb1 (by simp; omega)).trans (hcb2 _ hc)
          have hke := tmod65 ch[cnt R.on n]
          have hKe : ch[cnt R.on n].toNat % 65 = K := by rw [← hK]; unfold RM.kp; rw [dif_pos hc]
          rw [hKe] at hke
          unfold bv at hby
          generalize ch[cnt R.on n] = byte at *
          clear hcb2 hK hKe hb
          go_wp2_with fail
          clear hke
          obtain ⟨wo, rfl⟩ : ∃ wo : World, wo = wr := ⟨_, rfl⟩
          obtain ⟨go, rfl⟩ : ∃ go : Nat, go = gk := ⟨_, rfl⟩
          have hRrH := Lib.hid hRr
          have hFrH := Lib.hid hFr
          have hsetH := Lib.hid hset
          have hfosH := Lib.hid hfos
          have hmix0H := Lib.hid hmix0
          have hcsH := Lib.hid hcs
          have hl2H := Lib.hid hl2
          clear hRr hFr hset hfos hmix0 hcs hl2
          go_loopg [7] K (fun g b wr => RCopyInv wo r lb nb ob { R with on := R.fo n } (R.cr ch n) n R.new[n] R.last[n] K g b wr)
          case atStart => exact ⟨0, rfl, by omega, by rw [hmix0H.out]; exact hRrH.out, .refl _ _⟩
          case round =>
            obtain ⟨m, rfl, hg2, hR3, hF3⟩ := hrel
            have hl3 : ((R.cr ch n).set n (Pg.mix R.new[n] R.last[n] m)).length = R.last.length := by rw [List.length_set]; exact hl2H.out
            by_cases hmK : m < K
            · have hR4 := hR3.keep (S := []) (Fr.refl _ _).drew (by simp) (by simp) (by simp) (by simp)
              have d0 : wr.drew.cell? ⟨r, 0, none⟩ = _ := hR4.rcd.cell 0
              have d1 : wr.drew.cell? ⟨r, 1, none⟩ = _ := hR4.rcd.cell 1
              simp only [List.getElem?_cons_zero, List.getElem?_cons_succ, hl3] at d0 d1
              have hixl := run_index_row (P := Try.prog) (S := 23) Try.underlying23 pgTy.size lb R.last.length R.last.length n (by omega) hiI wr.drew
              have hixn := run_index_row (P := Try.prog) (S := 23) Try.underlying23 pgTy.size nb R.last.length R.last.length n (by omega) hiI wr.drew
              rw [Int.toNat_natCast] at hixl hixn
              have hm64 : m < 64 := by omega
              have hbn : wr.drew.cell? ⟨nb, n * 64 + m, none⟩ = some (bv R.new[n][m]) := by
                have := hR4.n.range n hnew m _ (cl_get _ m hm64)
                exact this
              have hbl : ∃ u, wr.drew.cell? ⟨lb, n * 64 + m, none⟩ = some u := by
                have := hR4.l.range n (by rw [hl3]; exact hlt) m _ (cl_get _ m hm64)
                exact ⟨_, this⟩
              obtain ⟨u, hbl⟩ := hbl
              have hfz := hR4.l.frozen (n * 64 + m)
              unfold bv at hbn
              have hfs : Fr [lb] wr.drew (wr.drew.setCell ⟨lb, n * 64 + m, none⟩ (.int .u8 R.new[n][m].toNat)) := (Fr.refl [lb] _).setCell _ _ (by simp)
              have hfin : RCopyInv wo r lb nb ob { R with on := R.fo n } (R.cr ch n) n R.new[n] R.last[n] K (gk - 1) (.int .i64 ((m : Int) + 1)) (wr.drew.setCell ⟨lb, n * 64 + m, none⟩ (.int .u8 R.new[n][m].toNat)) ∧ gk - 1 < gk := by
                have hl5 : ((R.cr ch n).set n (Pg.mix R.new[n] R.last[n] (m + 1))).length = R.last.length := by rw [List.length_set]; exact hl2H.out
                have hnin : n < ((R.cr ch n).set n (Pg.mix R.new[n] R.last[n] m)).length := by rw [hl3]; exact hlt
                have hget : ((R.cr ch n).set n (Pg.mix R.new[n] R.last[n] m))[n] = Pg.mix R.new[n] R.last[n] m := by rw [List.getElem_set_self]
                have hLb := hR4.l.setCell_same (n * 64 + m) (bv R.new[n][m])
                simp only at hLb
                rw [flat_set_byte _ n m hnin hm64, hget, List.set_set, mix_succ _ _ _ hm64] at hLb
                refine ⟨⟨m + 1, rfl, by omega, { rcd := ?_, l := hLb, n := hR4.n.keep hfs (by simpa using n4.symm), o := hR4.o.keep hfs (by simpa using n5.symm), nl := ?_, ol := ?_, len := ?_, ne := hR4.ne, left := hR4.left }, (hF3.drew).trans hfs (by simp) (by simp)⟩, by omega⟩
                · have := hR4.rcd.keep hfs (by simpa using n1)
                  simpa only [hl3, hl5] using this
                · simpa only [hl3, hl5] using hR4.nl
                · simpa only [hl3, hl5] using hR4.ol
                · simpa only [hl3, hl5] using hR4.len
              generalize R.new[n][m] = byte at *
              have hmI : (m : Int) < ((K : Nat) : Int) := by omega
              have hm64I : (m : Int) < 64 := by omega
              have hfinH := Lib.hid hfin
              have hixlH := Lib.hid hixl
              have hixnH := Lib.hid hixn
              clear hfin hixl hixn
              clear hR3 hF3 hl3 hR4 hfs
              go_wp2_with fail
              refine wp_region_still_tail 17 (by kernel_rfl) (by kernel_rfl) ?_
              simp only [List.take_succ_cons, List.take_zero, List.drop_succ_cons, List.drop_zero, World.drew_eq]
              repeat (first | ((with_reducible refine wpStill_indexAddr (hixlH.out) ?_ ?_ ?_ ?_); rfl; rfl; rfl) | ((with_reducible refine wpStill_indexAddr (hixnH.out) ?_ ?_ ?_ ?_); rfl; rfl; rfl) | still_step)
              refine wpStill_nil ?_
              go_wp2
              go_roundg (gk - 1)
              case measure => exact hfinH.out.2
              case rel => exact hfinH.out.1
            · have hmm : m = K := by omega
              subst hmm
              rw [hsetH.out] at hR3
              have hl5 : (R.cr ch (n + 1)).length = R.last.length := RM.cr_len R ch (n + 1)
              have d2 : wr.cell? ⟨r, 2, none⟩ = _ := hR3.rcd.cell 2
              simp only [List.getElem?_cons_zero, List.getElem?_cons_succ, hl5] at d2
              have hco := bs_cell hR3.o n (by simp only [RM.fo_len]; exact hon)
              have hfz := hR3.o.frozen n
              have hfs : Fr [ob] wr (wr.setCell ⟨ob, n, none⟩ (.bool false)) := (Fr.refl [ob] _).setCell _ _ (by simp)
              have hfin : RCrashInv w r lb nb ob R ch (go - 1) (.int .i64 ((cnt R.on n : Int) + 1)) (.int .i64 ((n : Int) + 1)) (wr.setCell ⟨ob, n, none⟩ (.bool false)) ∧ go - 1 < go := by
                have ho := hR3.o.setCell_same n (.bool false)
                have ho' : Blk (wr.setCell ⟨ob, n, none⟩ (.bool false)) ob 4 (bs (R.fo (n + 1))) := by
                  rw [← hfosH.out]; simpa [bs, List.map_set] using ho
                refine ⟨⟨n + 1, by rw [hcsH.out]; rfl, rfl, by omega, { rcd := hR3.rcd.keep hfs (by simpa using n3), l := hR3.l.keep hfs (by simpa using n5), n := hR3.n.keep hfs (by simpa using n6), o := ho', nl := hR3.nl, ol := ?_, len := hR3.len, ne := hR3.ne, left := hR3.left }, (hFrH.out.trans hF3 (S := [lb, ob]) (by simp) (by simp)).trans hfs (by simp) (by simp)⟩, by omega⟩
                have := hR3.ol
                simp only [RM.fo_len] at this ⊢
                exact this
              have hmK2 : ¬ (m : Int) < (m : Int) := by omega
              have hfinH := Lib.hid hfin
              clear hfin
              clear hR3 hF3
              go_wp2
              go_roundg (go - 1)
              case measure => exact hfinH.out.2
              case rel => exact hfinH.out.1
        · have hcI : ¬ (cnt R.on n : Int) < (ch.length : Int) := by omega
          have hK0 : K = 0 := by rw [← hK]; unfold RM.kp; rw [dif_neg hc]
          subst hK0
          clear hb hK
          go_wp2_with fail
          skip
          obtain ⟨wo, rfl⟩ : ∃ wo : World, wo = wr := ⟨_, rfl⟩
          obtain ⟨go, rfl⟩ : ∃ go : Nat, go = gk := ⟨_, rfl⟩
          have hRrH := Lib.hid hRr
          have hFrH := Lib.hid hFr
          have hsetH := Lib.hid hset
          have hfosH := Lib.hid hfos
          have hmix0H := Lib.hid hmix0
          have hcsH := Lib.hid hcs
          have hl2H := Lib.hid hl2
          clear hRr hFr hset hfos hmix0 hcs hl2
          go_loopg [7] 0 (fun g b wr => RCopyInv wo r lb nb ob { R with on := R.fo n } (R.cr ch n) n R.new[n] R.last[n] 0 g b wr)
          case atStart => exact ⟨0, rfl, by omega, by rw [hmix0H.out]; exact hRrH.out, .refl _ _⟩
          case round =>
            obtain ⟨m, rfl, hg2, hR3, hF3⟩ := hrel
            have hl3 : ((R.cr ch n).set n (Pg.mix R.new[n] R.last[n] m)).length = R.last.length := by rw [List.length_set]; exact hl2H.out
            by_cases hmK : m < 0
            · exact absurd hmK (Nat.not_lt_zero _)
            · have hmm : m = 0 := by omega
              subst hmm
              rw [hsetH.out] at hR3
              have hl5 : (R.cr ch (n + 1)).length = R.last.length := RM.cr_len R ch (n + 1)
              have d2 : wr.cell? ⟨r, 2, none⟩ = _ := hR3.rcd.cell 2
              simp only [List.getElem?_cons_zero, List.getElem?_cons_succ, hl5] at d2
              have hco := bs_cell hR3.o n (by simp only [RM.fo_len]; exact hon)
              have hfz := hR3.o.frozen n
              have hfs : Fr [ob] wr (wr.setCell ⟨ob, n, none⟩ (.bool false)) := (Fr.refl [ob] _).setCell _ _ (by simp)
              have hfin : RCrashInv w r lb nb ob R ch (go - 1) (.int .i64 ((cnt R.on n : Int) + 1)) (.int .i64 ((n : Int) + 1)) (wr.setCell ⟨ob, n, none⟩ (.bool false)) ∧ go - 1 < go := by
                have ho := hR3.o.setCell_same n (.bool false)
                have ho' : Blk (wr.setCell ⟨ob, n, none⟩ (.bool false)) ob 4 (bs (R.fo (n + 1))) := by
                  rw [← hfosH.out]; simpa [bs, List.map_set] using ho
                refine ⟨⟨n + 1, by rw [hcsH.out]; rfl, rfl, by omega, { rcd := hR3.rcd.keep hfs (by simpa using n3), l := hR3.l.keep hfs (by simpa using n5), n := hR3.n.keep hfs (by simpa using n6), o := ho', nl := hR3.nl, ol := ?_, len := hR3.len, ne := hR3.ne, left := hR3.left }, (hFrH.out.trans hF3 (S := [lb, ob]) (by simp) (by simp)).trans hfs (by simp) (by simp)⟩, by omega⟩
                have := hR3.ol
                simp only [RM.fo_len] at this ⊢
                exact this
              have hmK2 : ¬ ((0 : Nat) : Int) < ((0 : Nat) : Int) := by omega
              have hfinH := Lib.hid hfin
              clear hfin
              clear hR3 hF3
              go_wp2
              go_roundg (go - 1)
              case measure => exact hfinH.out.2
              case rel => exact hfinH.out.1
    · have hn : n = R.last.length := by omega
      subst hn
      have e3 : wr.cell? ⟨r, 3, none⟩ = _ := hRr.rcd.cell 3
      have e4 : wr.cell? ⟨r, 4, none⟩ = _ := hRr.rcd.cell 4
      simp only [List.getElem?_cons_zero, List.getElem?_cons_succ, hl2] at e3 e4
      have f3 := hRr.rcd.frozen 3
      have f4 := hRr.rcd.frozen 4
      have hfs : Fr [r] wr ((wr.setCell ⟨r, 3, none⟩ (.int .i64 (-1))).setCell ⟨r, 4, none⟩ (.bool false)) := ((Fr.refl [r] wr).setCell _ _ (by simp)).setCell _ _ (by simp)
      have hfin : RefAt ((wr.setCell ⟨r, 3, none⟩ (.int .i64 (-1))).setCell ⟨r, 4, none⟩ (.bool false)) r lb nb ob (R.crash ch) ∧ Fr [r, lb, ob] w ((wr.setCell ⟨r, 3, none⟩ (.int .i64 (-1))).setCell ⟨r, 4, none⟩ (.bool false)) :=
        ⟨{ rcd := (hRr.rcd.setCell_same 3 _).setCell_same 4 _, l := hRr.l.keep hfs (by simpa using n1.symm), n := hRr.n.keep hfs (by simpa using n2.symm), o := hRr.o.keep hfs (by simpa using n3.symm), nl := hRr.nl, ol := hRr.ol, len := hRr.len, ne := hRr.ne, left := by simp [RM.crash] },
          hFr.trans hfs (by simp) (by simp)⟩
      have hfinH := Lib.hid hfin
      clear hfin
      clear hRr hFr hl2
      go_wp2
      go_end0
      exact ⟨rfl, hfinH.out⟩
end Go.Proofs
