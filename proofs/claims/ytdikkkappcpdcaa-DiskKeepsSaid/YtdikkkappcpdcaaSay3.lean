/- Small facts on the two disks: lengths, steps that agree; bytes of a script's call. -/
import Derived.Test.YtdikkkappcpdcaaRel3
import Derived.Test.YtdikkkappcpdcaaOp3
namespace Go.Proofs
open Go Go.RowKit Go.Nx
set_option maxRecDepth 100000
set_option linter.unusedVariables false

theorem SlAt.bytes {w x : World} {a : Option Addr} {cap : Nat} {l : List UInt8} (h : SlAt w (.slice a l.length cap) 1 (fun c => [bv c]) l) (hB : Below w.heap.size w x) :
    BytesAt x (.slice a l.length cap) l ∧ ∀ b off cp, Value.slice a l.length cap = .slice (some ⟨b, off, none⟩) l.length cp → l ≠ [] → b < w.heap.size := by
  obtain ⟨a', cap', he, hc⟩ := h
  obtain ⟨rfl, rfl⟩ : a = a' ∧ cap = cap' := by injection he with e1 e2 e3; exact ⟨e1, e3⟩
  refine ⟨⟨a, cap, rfl, fun hne => ?_⟩, fun b off cp he hne => ?_⟩
  · obtain ⟨b, off, rfl, hb, hr⟩ := hc hne
    refine ⟨b, off, rfl, Nat.lt_of_lt_of_le hb hB.size, fun j hj => ?_⟩
    have h2 := hr j hj 0 _ rfl
    rw [Nat.mul_one, Nat.add_zero] at h2
    exact (hB.cell hb).trans h2
  · obtain ⟨b', off', h1, hb, _⟩ := hc hne
    injection he with e1 e2 e3
    rw [h1] at e1
    injection e1 with e1
    injection e1 with e1
    rw [← e1]; exact hb

theorem RM.write_len (R : RM) (i : Int) (p : Pg) : (R.write i p).2.last.length = R.last.length := by
  unfold RM.write
  split
  · rfl
  · split
    · show R.step.2.last.length = _; rw [RM.step_last]
    · rw [RM.step_last]
theorem RM.flush_len (R : RM) : R.flush.2.last.length = R.last.length := by
  unfold RM.flush
  split
  · rfl
  · split
    · show (R.step.2.fl _).length = _; rw [RM.fl_len, RM.step_last]
    · rw [RM.step_last]
theorem RM.fuse_len (R : RM) (n : Int) : (R.fuse n).last.length = R.last.length := rfl
theorem RM.crash_len (R : RM) (ch : List UInt8) : (R.crash ch).last.length = R.last.length := RM.cr_len R ch _

/-- The same word of both, and what they are behind it. -/
theorem Rel.write' {D : DM} {R : RM} (h : Rel D R) (i : Int) (p : Pg) : ∃ g D' R', D.write i p = (g, D') ∧ R.write i p = (g, R') ∧ Rel D' R' ∧ R'.last.length = R.last.length := by
  obtain ⟨h1, h2⟩ := h.write i p
  exact ⟨(D.write i p).1, (D.write i p).2, (R.write i p).2, Prod.ext rfl rfl, Prod.ext h1.symm rfl, h2, RM.write_len R i p⟩
theorem Rel.flush' {D : DM} {R : RM} (h : Rel D R) : ∃ g D' R', D.flush = (g, D') ∧ R.flush = (g, R') ∧ Rel D' R' ∧ R'.last.length = R.last.length := by
  obtain ⟨h1, h2⟩ := h.flush
  exact ⟨D.flush.1, D.flush.2, R.flush.2, Prod.ext rfl rfl, Prod.ext h1.symm rfl, h2, RM.flush_len R⟩

theorem opBlk_0 {w : World} {b : Nat} {t : TypeId} {o : OpM} (h : Blk w b t (opEnc o)) : w.cell? ⟨b, 0, none⟩ = some (.int .i64 o.k) := (h.cell 0).trans (opEnc_0 o)
theorem opBlk_1 {w : World} {b : Nat} {t : TypeId} {o : OpM} (h : Blk w b t (opEnc o)) : w.cell? ⟨b, 1, none⟩ = some (.int .i64 o.n) := (h.cell 1).trans (opEnc_1 o)
theorem opBlk_66 {w : World} {b : Nat} {t : TypeId} {o : OpM} (h : Blk w b t (opEnc o)) : w.cell? ⟨b, 66, none⟩ = some o.kv := (h.cell 66).trans (opEnc_66 o)
theorem opLd_1 {w : World} {b : Nat} {t : TypeId} {o : OpM} (h : Blk w b t (opEnc o)) : (Instr.loadAt 3 (.pointer (some ⟨b, 1, none⟩))).run Try.prog w = .ok (.int .i64 o.n) w := run_loadAt_one (by kernel_rfl) (opBlk_1 h)
theorem opLd_2 {w : World} {b : Nat} {t : TypeId} {o : OpM} (h : Blk w b t (opEnc o)) : (Instr.loadAt 31 (.pointer (some ⟨b, 2, none⟩))).run Try.prog w = .ok (pv o.pg) w := run_load_pg pgTy (opBlk_pg h)
theorem refLd_0 {w : World} {r lb nb ob : Nat} {R : RM} (h : RefAt w r lb nb ob R) : (Instr.loadAt 23 (.pointer (some ⟨r, 0, none⟩))).run Try.prog w = .ok (.slice (some ⟨lb, 0, none⟩) R.last.length R.last.length) w := run_loadAt_one (by kernel_rfl) (h.rcd.cell 0)
theorem refLd_4 {w : World} {r lb nb ob : Nat} {R : RM} (h : RefAt w r lb nb ob R) : (Instr.loadAt 4 (.pointer (some ⟨r, 4, none⟩))).run Try.prog w = .ok (.bool R.down) w := run_loadAt_one (by kernel_rfl) (h.rcd.cell 4)
end Go.Proofs
