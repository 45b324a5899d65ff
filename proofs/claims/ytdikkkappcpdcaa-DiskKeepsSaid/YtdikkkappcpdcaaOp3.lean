/- The calls of layer 3's scripts (narthexlaw03.Op): what a slice of them holds. -/
import Derived.Test.YtdikkkappcpdcaaOpen
import Derived.Test.YtdikkkappcpdcaaDsk5
namespace Go.Proofs
open Go Go.RowKit Go.Nx
set_option maxRecDepth 100000

/-- A call: its kind, its number, its page, its bytes (a slice). -/
structure OpM where
  k : Int
  n : Int
  pg : Pg
  kv : Value

def opEnc (o : OpM) : List Value := [.int .i64 o.k, .int .i64 o.n] ++ cl o.pg ++ [o.kv]
theorem opEnc_length (o : OpM) : (opEnc o).length = 67 := by simp [opEnc, cl_length]
theorem opEnc_0 (o : OpM) : (opEnc o)[0]? = some (.int .i64 o.k) := rfl
theorem opEnc_1 (o : OpM) : (opEnc o)[1]? = some (.int .i64 o.n) := rfl
theorem opEnc_66 (o : OpM) : (opEnc o)[66]? = some o.kv := by
  unfold opEnc
  rw [List.getElem?_append_right (by simp [cl_length])]
  simp [cl_length]
theorem opEnc_pg (o : OpM) (j : Nat) (v : Value) (h : (cl o.pg)[j]? = some v) : (opEnc o)[2 + j]? = some v := by
  have hj : j < 64 := by
    rcases Nat.lt_or_ge j 64 with h' | h'
    · exact h'
    · rw [List.getElem?_eq_none (by rw [cl_length]; exact h')] at h; cases h
  unfold opEnc
  rw [List.append_assoc, List.getElem?_append_right (by simp), List.getElem?_append_left (by simp [cl_length]; omega)]
  simpa using h
theorem opBlk_pg {w : World} {b : Nat} {t : TypeId} {o : OpM} (h : Blk w b t (opEnc o)) : w.rangeAt b 2 (cl o.pg) := fun j v hv => by rw [h.cell]; exact opEnc_pg o j v hv

def opZero : OpM := ⟨0, 0, Pg.zero, .slice none 0 0⟩
theorem opTy : AggTy Try.prog 41 67 (opEnc opZero) :=
  ⟨⟨_, Try.underlying41, rfl⟩, by unfold opEnc opZero; rw [cl_zero]; kernel_rfl⟩

/-- Its numbers are int's; its bytes lie in memory. -/
def OpOk (w : World) (o : OpM) : Prop := (-9223372036854775808 ≤ o.k ∧ o.k ≤ 9223372036854775807) ∧ (-9223372036854775808 ≤ o.n ∧ o.n ≤ 9223372036854775807) ∧ ∃ l : List UInt8, SlAt w o.kv 1 (fun c => [bv c]) l

theorem OpOk.one {w : World} {o : OpM} (h : OpOk w o) : ∀ v ∈ opEnc o, v.oneCell' = true := by
  obtain ⟨_, _, l, a, cap, hv, _⟩ := h
  intro v hm
  simp only [opEnc, List.mem_append, List.mem_cons, List.not_mem_nil, or_false] at hm
  rcases hm with ((rfl | rfl) | hm) | rfl
  · rfl
  · rfl
  · exact cl_one _ v hm
  · rw [hv]; rfl

theorem trod_op {H : Type} {enc : TypeId × Value → H} {w : World} {base : Nat} {spare : Nat → Bool} {held : Bool} {fuel : Nat} {cs : List Value} {x : DataW H × List MemPlace}
    (h : DataW.trod enc Try.prog w base spare held fuel 41 cs = some x) : ∃ o, cs = opEnc o ∧ OpOk w o := by
  obtain ⟨xs, m, rfl, _, hlen, hxl, hel⟩ := DataW.trod_struct Try.underlying41 h
  have hc67 : Try.prog.cellsOf 41 = 67 := by kernel_rfl
  have hc3 : Try.prog.cellsOf 3 = 1 := by kernel_rfl
  have hc31 : Try.prog.cellsOf 31 = 64 := by kernel_rfl
  have hc22 : Try.prog.cellsOf 22 = 1 := by kernel_rfl
  rw [hc67] at hlen
  have hx4 : xs.length = 4 := hxl
  have g0 := hel 0 _ rfl
  have g1 := hel 1 _ rfl
  have g2 := hel 2 _ rfl
  have g3 := hel 3 _ rfl
  rw [List.getElem?_eq_getElem (by omega)] at g0 g1 g2 g3
  obtain ⟨k, e0, _, w0⟩ := DataW.trod_int Try.underlying3 g0
  obtain ⟨n, e1, _, w1⟩ := DataW.trod_int Try.underlying3 g1
  obtain ⟨pg, e2⟩ := trod_pg Try.underlying31 Try.underlying5 (by kernel_rfl) hc31 g2
  obtain ⟨kv, e3, l, hl⟩ := open_bytes_cells Try.underlying22 Try.underlying5 (by kernel_rfl) g3
  refine ⟨⟨k, n, pg, kv⟩, ?_, int_of_wf w0, int_of_wf w1, l, hl⟩
  have s1 : cs = cs.take 1 ++ ((cs.drop 1).take 1 ++ ((cs.drop 2).take 64 ++ cs.drop 66)) := by
    have a1 : cs.drop 2 = (cs.drop 2).take 64 ++ cs.drop 66 := by
      conv => lhs; rw [← List.take_append_drop 64 (cs.drop 2)]
      rw [List.drop_drop]
    have a2 : cs.drop 1 = (cs.drop 1).take 1 ++ cs.drop 2 := by
      conv => lhs; rw [← List.take_append_drop 1 (cs.drop 1)]
      rw [List.drop_drop]
    rw [← a1, ← a2, List.take_append_drop]
  have e3' : cs.drop 66 = [kv] := by
    have hl1 : (cs.drop 66).length = 1 := by simp [hlen]
    have t : (cs.drop 66).take 1 = cs.drop 66 := List.take_of_length_le (by omega)
    exact t.symm.trans e3
  have e0' : cs.take 1 = [.int .i64 k] := e0
  have e1' : (cs.drop 1).take 1 = [.int .i64 n] := e1
  have e2' : (cs.drop 2).take 64 = cl pg := e2
  rw [s1, e0', e1', e2', e3']
  simp [opEnc]

theorem open_ops {H : Type} {enc' : TypeId × Value → H} {w : World} {base b2 : Nat} {spare : Nat → Bool} {held : Bool} {v : Value} {d : DataW H} {ps : List MemPlace} {r : Reach}
    (ho : Value.okWide Try.prog w r b2 39 v) (h : DataW.Trod enc' Try.prog w base spare held 39 v d ps) : ∃ l : List OpM, SlAt w v 67 opEnc l ∧ ∀ o ∈ l, OpOk w o :=
  open_sl Try.underlying39 67 (by kernel_rfl) (by omega) opEnc (OpOk w) (fun _ _ _ hx => trod_op hx) ho h
end Go.Proofs
