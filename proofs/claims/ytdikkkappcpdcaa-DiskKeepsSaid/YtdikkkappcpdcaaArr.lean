/- Arrays of pages: index, allocation; the array type of 8 pages. -/
import Derived.Test.YtdikkkappcpdcaaDsk5
import Derived.Test.YtdikkkappcpdcaaOpen
namespace Go.Nx
open Go Go.RowKit
variable {P : Program}
theorem run_index_arr {S E : TypeId} {n N : Nat} (hS : P.underlying S = some (.array N E)) (hE : (P.info? E).map (·.size) = some n) (b off : Nat) (i : Int) (h0 : 0 ≤ i) (h1 : i < N) (w : World) :
    (Instr.indexAt S (.pointer (some ⟨b, off, none⟩)) (.int .i64 i)).run P w = .ok (.pointer (some ⟨b, off + i.toNat * n, none⟩)) w := by
  cases hq : P.info? E with
  | none => rw [hq] at hE; cases hE
  | some inf =>
    have hs : inf.size = n := by simpa [hq] using hE
    have hadd : (⟨b, off, none⟩ : Addr).add (i.toNat * n) = ⟨b, off + i.toNat * n, none⟩ := Addr.add_mid _ _ _
    simp [Instr.indexAt, asIntOf, run_underlying hS, Sem.run_bind, h0, h1, sizeOf, typeInfo, hq, hs, hadd, Instr.sureAddr]
theorem run_alloc_row {T : TypeId} {cs : List Value} (hi : (P.info? T).map (·.zero) = some (some (.agg cs.toArray))) (w : World) : (Instr.alloc T true (.tuple #[])).run P w = .ok (.pointer (some ⟨w.heap.size, 0, none⟩)) (w.alloc (.cells cs.toArray T)) := by
  cases hq : P.info? T with
  | none => rw [hq] at hi; cases hi
  | some inf =>
    have hz : inf.zero = some (.agg cs.toArray) := by simpa [hq] using hi
    simp [Instr.alloc, Sem.run_bind, zeroValue, typeInfo, hq, hz, newVar, newRow, newObj, Value.cells, Sem.run]
/-- A page into a row of pages, whatever the row's type. -/
theorem store_rows {T t : TypeId} (hT : PgTy P T) {b : Nat} {l : List Pg} {w : World} (hb : Blk w b t (flat l)) (i : Nat) (hi : i < l.length) (p : Pg) :
    ∃ w', (Instr.storeAt T (.pointer (some ⟨b, i * 64, none⟩)) (.agg (cl p).toArray)).run P w = .ok () w' ∧ Blk w' b t (flat (l.set i p)) ∧ Fr [b] w w' ∧ w'.heap.size = w.heap.size :=
  ⟨_, run_store_pg hT (hb.there _ 64 (by rw [flat_length]; omega)), by have := hb.setCells (cl p) (i * 64) w _; rwa [over_flat l i p hi] at this, Fr.setCells b _ _ _ (.refl _ _) (by simp), by simp⟩
/-- A byte of a row of pages. -/
theorem flat_cell {t : TypeId} {b : Nat} {l : List Pg} {w : World} (hb : Blk w b t (flat l)) (i j : Nat) (hi : i < l.length) (hj : j < 64) : w.cell? ⟨b, i * 64 + j, none⟩ = some (bv l[i][j]) := by
  rw [hb.cell, flat_get l i j hi hj, cl_get _ _ hj]
end Go.Nx
namespace Go.Proofs
open Go Go.RowKit Go.Nx
set_option maxRecDepth 100000
theorem arr8_zero : (Try.prog.info? 43).map (·.zero) = some (some (.agg (flat (List.replicate 8 Pg.zero)).toArray)) := by
  rw [flat_zero]; kernel_rfl
end Go.Proofs
