/- What a crash leaves of each page, and how many pages it changes: plain, no program. -/
import Derived.Test.YtdikkkappcpdcaaSay3
namespace Go.Proofs
open Go Go.RowKit Go.Nx
set_option maxRecDepth 100000
set_option linter.unusedVariables false

/-- The page j behind the crash. -/
def DM.aft (D : DM) (ch : List UInt8) (j : Nat) : Pg := (D.crash ch).lasts j

theorem Rel.aft {D : DM} {R : RM} (h : Rel D R) (ch : List UInt8) (j : Nat) (hj : j < R.last.length) : D.aft ch j = if R.on.getD j false = true then Pg.mix (R.new.getD j Pg.zero) (R.last.getD j Pg.zero) (R.kp ch j) else R.last.getD j Pg.zero := by
  unfold DM.aft
  rw [(h.crash ch).lasts, if_pos ⟨by omega, by rw [RM.crash_len]; omega⟩]
  show (R.cr ch R.last.length).getD ((j : Int).toNat) Pg.zero = _
  rw [Int.toNat_natCast]
  unfold RM.cr List.getD
  rw [List.getElem?_mapIdx, List.getElem?_eq_getElem hj]
  simp [hj]

theorem Rel.lasts' {D : DM} {R : RM} (h : Rel D R) (j : Nat) (hj : j < R.last.length) : D.lasts j = R.last.getD j Pg.zero := by
  rw [h.lasts, if_pos ⟨by omega, by omega⟩, Int.toNat_natCast]

theorem crash_read {D : DM} {R : RM} (h : Rel D R) (ch : List UInt8) (j : Nat) (hj : j < R.last.length) : (D.crash ch).read j = (D.aft ch j, 0) := by
  have hl : (D.crash ch).pages.length = R.last.length := by rw [(h.crash ch).pages, RM.crash_len]
  have hd : (D.crash ch).down = false := rfl
  have hh : (D.crash ch).has j = 0 := by
    unfold DM.has
    rw [hl, hd, if_neg (by simp), if_neg (by omega)]
  unfold DM.read DM.aft DM.lasts
  rw [hh, if_neg (by simp), hl, if_neg (by omega)]
  rfl

theorem RM.read_ok {R : RM} {i : Int} (hh : R.has i = 0) : R.read i = (if R.on.getD i.toNat false then R.new.getD i.toNat Pg.zero else R.last.getD i.toNat Pg.zero, 0) := by
  unfold RM.read
  exact if_neg (fun h => h hh)

/-- Each page is the newest content up to a place, the oldest from there on. -/
theorem aft_mix {D : DM} {R : RM} (h : Rel D R) (hd : D.down = false) (ch : List UInt8) (j : Nat) (hj : j < R.last.length) : ∃ m, D.aft ch j = Pg.mix (D.read j).1 (D.lasts j) m := by
  rw [h.aft ch j hj, h.lasts' j hj, h.read]
  have hR : R.down = false := by rw [← h.down]; exact hd
  have hh : R.has j = 0 := by
    unfold RM.has
    rw [hR, if_neg (by simp), if_neg (by omega)]
  rw [RM.read_ok hh]
  simp only [Int.toNat_natCast]
  by_cases hon : R.on.getD j false = true
  · rw [if_pos hon, if_pos hon]
    exact ⟨_, rfl⟩
  · rw [if_neg hon, if_neg hon]
    exact ⟨0, (mix_zero _ _).symm⟩

/-- How many of the first k pages a crash changes. -/
def chg (D : DM) (ch : List UInt8) (k : Nat) : Nat := (List.range k).countP fun j => !(D.aft ch j == D.lasts j)
theorem chg_succ (D : DM) (ch : List UInt8) (k : Nat) : chg D ch (k + 1) = chg D ch k + if D.aft ch k = D.lasts k then 0 else 1 := by
  unfold chg
  rw [List.range_succ, List.countP_append, List.countP_singleton]
  by_cases he : D.aft ch k = D.lasts k
  · simp [he]
  · simp [he]
theorem chg_le_self (D : DM) (ch : List UInt8) (k : Nat) : chg D ch k ≤ k := by
  have := List.countP_le_length (p := fun j => !(D.aft ch j == D.lasts j)) (l := List.range k)
  simpa [chg] using this

theorem chg_bound {D : DM} {R : RM} (h : Rel D R) (ch : List UInt8) : ∀ k, k ≤ R.last.length → chg D ch k ≤ cnt R.on k ∧ chg D ch k ≤ ch.length := by
  intro k
  induction k with
  | zero => intro _; simp [chg]
  | succ k ih =>
    intro hk
    obtain ⟨i1, i2⟩ := ih (by omega)
    rw [chg_succ, cnt_succ _ _ (by rw [h.ol]; omega)]
    by_cases he : D.aft ch k = D.lasts k
    · rw [if_pos he]; exact ⟨by omega, by omega⟩
    · rw [if_neg he]
      rw [h.aft ch k (by omega), h.lasts' k (by omega)] at he
      by_cases hon : R.on.getD k false = true
      · rw [if_pos hon] at he ⊢
        have hlt : cnt R.on k < ch.length := by
          rcases Nat.lt_or_ge (cnt R.on k) ch.length with h' | h'
          · exact h'
          · exfalso; apply he
            unfold RM.kp
            rw [dif_neg (by omega), mix_zero]
        exact ⟨by omega, by omega⟩
      · rw [if_neg hon] at he; exact absurd rfl he

theorem chg_cache {D : DM} {R : RM} (h : Rel D R) (ch : List UInt8) : chg D ch R.last.length ≤ D.cache.length ∧ chg D ch R.last.length ≤ ch.length := by
  rw [h.cached]; exact chg_bound h ch _ (Nat.le_refl _)

/-- Where a page no longer is the newest content, it is the oldest from there on. -/
theorem mix_old (q p : Pg) (m k : Nat) (hk : k < 64) (hne : (Pg.mix q p m)[k] ≠ q[k]) (j : Nat) (hkj : k ≤ j) (hj : j < 64) : (Pg.mix q p m)[j] = p[j] := by
  have hm : ¬ k < m := fun h => hne (by simp [Pg.mix, h])
  have : ¬ j < m := by omega
  simp [Pg.mix, this]
end Go.Proofs
