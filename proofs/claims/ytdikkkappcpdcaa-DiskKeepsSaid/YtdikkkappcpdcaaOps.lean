/- General laws, of no program: an operation whose run is known, taken in a plain region and among the still ones of a region that draws its order. -/
import Derived.Test.YtdikkkappcpdcaaBase
import Derived.StillTailTactics
import Derived.Stop.BytesEq
namespace Go.Nx
open Go Go.RowKit
variable {P : Program} {ops : Array Oper} {Q : Exit → Act → World → Prop} {a : Act} {w w' : World} {rest : List Oper} {o : Oper}

/-- An operation that yields a value. -/
theorem wpList_value {v : Value} (hw : Region.wanted o (yielded ops a.tmps) = true) (hr : (execOp a.eval o).run P w = .ok (.value v) w') (h : wpList P ops Q rest (a.put o.dst v) w') : wpList P ops Q (o :: rest) a w :=
  wpList_step fun _ hK => by rw [if_pos hw]; unfold Oper.wp; rw [hr]; exact hK _ _ h
/-- An operation that yields none. -/
theorem wpList_skip (hw : Region.wanted o (yielded ops a.tmps) = true) (hr : (execOp a.eval o).run P w = .ok .skip w') (h : wpList P ops Q rest (a.put o.dst undef) w') : wpList P ops Q (o :: rest) a w :=
  wpList_step fun _ hK => by rw [if_pos hw]; unfold Oper.wp; rw [hr]; exact hK _ _ h
theorem wpStill_value {Q : Act → Prop} {v : Value} (hw : Region.wanted o (yielded ops a.tmps) = true) (hr : (execOp a.eval o).run P w = .ok (.value v) w) (h : wpStill P ops w Q rest (a.put o.dst v)) : wpStill P ops w Q (o :: rest) a :=
  wpStill_step fun K hK => by
    rw [if_pos hw]
    unfold Oper.still Oper.stillUpon
    rw [hr]
    exact ⟨rfl, hK _ h⟩

theorem exec_load {d : Option Tmp} {t : TypeId} {pos : String} {af : Array Edge} {g : Option (Nat × Bool)} {ty : TypeId} {x : Operand} {v u : Value} (hr : (Instr.loadAt ty v).run P w = .ok u w') (hx : a.eval x = v) : (execOp a.eval (⟨d, .load ty x, t, pos, af, g⟩ : Oper)).run P w = .ok (.value u) w' := by
  subst_vars; show (Sem.bind _ _).run P w = _; exact (Sem.run_bind _ _ _ _).trans (by rw [hr]; rfl)
theorem wpList_load {d : Option Tmp} {t : TypeId} {pos : String} {af : Array Edge} {g : Option (Nat × Bool)} {ty : TypeId} {x : Operand} {v u : Value} (hr : (Instr.loadAt ty v).run P w = .ok u w') (hx : a.eval x = v) (hw : Region.wanted (⟨d, .load ty x, t, pos, af, g⟩ : Oper) (yielded ops a.tmps) = true) (h : wpList P ops Q rest (a.put d u) w') : wpList P ops Q ((⟨d, .load ty x, t, pos, af, g⟩ : Oper) :: rest) a w :=
  wpList_value hw (exec_load hr hx) h
theorem wpStill_load {Q : Act → Prop} {d : Option Tmp} {t : TypeId} {pos : String} {af : Array Edge} {g : Option (Nat × Bool)} {ty : TypeId} {x : Operand} {v u : Value} (hr : (Instr.loadAt ty v).run P w = .ok u w) (hx : a.eval x = v) (hw : Region.wanted (⟨d, .load ty x, t, pos, af, g⟩ : Oper) (yielded ops a.tmps) = true) (h : wpStill P ops w Q rest (a.put d u)) : wpStill P ops w Q ((⟨d, .load ty x, t, pos, af, g⟩ : Oper) :: rest) a :=
  wpStill_value hw (exec_load hr hx) h
theorem exec_store {d : Option Tmp} {t : TypeId} {pos : String} {af : Array Edge} {g : Option (Nat × Bool)} {ty : TypeId} {x y : Operand} {v u : Value} (hr : (Instr.storeAt ty v u).run P w = .ok () w') (hx : a.eval x = v) (hy : a.eval y = u) : (execOp a.eval (⟨d, .store ty x y, t, pos, af, g⟩ : Oper)).run P w = .ok .skip w' := by
  subst_vars; show (Sem.bind _ _).run P w = _; exact (Sem.run_bind _ _ _ _).trans (by rw [hr]; rfl)
theorem wpList_store {d : Option Tmp} {t : TypeId} {pos : String} {af : Array Edge} {g : Option (Nat × Bool)} {ty : TypeId} {x y : Operand} {v u : Value} (hr : (Instr.storeAt ty v u).run P w = .ok () w') (hx : a.eval x = v) (hy : a.eval y = u) (hw : Region.wanted (⟨d, .store ty x y, t, pos, af, g⟩ : Oper) (yielded ops a.tmps) = true) (h : wpList P ops Q rest (a.put d undef) w') : wpList P ops Q ((⟨d, .store ty x y, t, pos, af, g⟩ : Oper) :: rest) a w :=
  wpList_skip hw (exec_store hr hx hy) h
theorem exec_mapUpdate {d : Option Tmp} {t : TypeId} {pos : String} {af : Array Edge} {g : Option (Nat × Bool)} {ty : TypeId} {x y z : Operand} {m k v : Value} (hr : (Instr.mapUpdate ty m k v).run P w = .ok () w') (hx : a.eval x = m) (hy : a.eval y = k) (hz : a.eval z = v) : (execOp a.eval (⟨d, .mapUpdate ty x y z, t, pos, af, g⟩ : Oper)).run P w = .ok .skip w' := by
  subst_vars; show (Sem.bind _ _).run P w = _; exact (Sem.run_bind _ _ _ _).trans (by rw [hr]; rfl)
theorem wpList_mapUpdate {d : Option Tmp} {t : TypeId} {pos : String} {af : Array Edge} {g : Option (Nat × Bool)} {ty : TypeId} {x y z : Operand} {m k v : Value} (hr : (Instr.mapUpdate ty m k v).run P w = .ok () w') (hx : a.eval x = m) (hy : a.eval y = k) (hz : a.eval z = v) (hw : Region.wanted (⟨d, .mapUpdate ty x y z, t, pos, af, g⟩ : Oper) (yielded ops a.tmps) = true) (h : wpList P ops Q rest (a.put d undef) w') : wpList P ops Q ((⟨d, .mapUpdate ty x y z, t, pos, af, g⟩ : Oper) :: rest) a w :=
  wpList_skip hw (exec_mapUpdate hr hx hy hz) h
theorem exec_lookup {d : Option Tmp} {t : TypeId} {pos : String} {af : Array Edge} {g : Option (Nat × Bool)} {ty : TypeId} {x y : Operand} {m k u : Value} {c : Bool} (hr : (Instr.lookup ty m k c).run P w = .ok u w') (hx : a.eval x = m) (hy : a.eval y = k) : (execOp a.eval (⟨d, .lookup ty x y c, t, pos, af, g⟩ : Oper)).run P w = .ok (.value u) w' := by
  subst_vars; show (Sem.bind _ _).run P w = _; exact (Sem.run_bind _ _ _ _).trans (by rw [hr]; rfl)
theorem wpList_lookup {d : Option Tmp} {t : TypeId} {pos : String} {af : Array Edge} {g : Option (Nat × Bool)} {ty : TypeId} {x y : Operand} {m k u : Value} {c : Bool} (hr : (Instr.lookup ty m k c).run P w = .ok u w') (hx : a.eval x = m) (hy : a.eval y = k) (hw : Region.wanted (⟨d, .lookup ty x y c, t, pos, af, g⟩ : Oper) (yielded ops a.tmps) = true) (h : wpList P ops Q rest (a.put d u) w') : wpList P ops Q ((⟨d, .lookup ty x y c, t, pos, af, g⟩ : Oper) :: rest) a w :=
  wpList_value hw (exec_lookup hr hx hy) h
theorem wpStill_lookup {Q : Act → Prop} {d : Option Tmp} {t : TypeId} {pos : String} {af : Array Edge} {g : Option (Nat × Bool)} {ty : TypeId} {x y : Operand} {m k u : Value} {c : Bool} (hr : (Instr.lookup ty m k c).run P w = .ok u w) (hx : a.eval x = m) (hy : a.eval y = k) (hw : Region.wanted (⟨d, .lookup ty x y c, t, pos, af, g⟩ : Oper) (yielded ops a.tmps) = true) (h : wpStill P ops w Q rest (a.put d u)) : wpStill P ops w Q ((⟨d, .lookup ty x y c, t, pos, af, g⟩ : Oper) :: rest) a :=
  wpStill_value hw (exec_lookup hr hx hy) h
theorem exec_range {d : Option Tmp} {t : TypeId} {pos : String} {af : Array Edge} {g : Option (Nat × Bool)} {ty : TypeId} {x : Operand} {m u : Value} (hr : (Instr.range ty m).run P w = .ok u w') (hx : a.eval x = m) : (execOp a.eval (⟨d, .range ty x, t, pos, af, g⟩ : Oper)).run P w = .ok (.value u) w' := by
  subst_vars; show (Sem.bind _ _).run P w = _; exact (Sem.run_bind _ _ _ _).trans (by rw [hr]; rfl)
theorem wpList_range {d : Option Tmp} {t : TypeId} {pos : String} {af : Array Edge} {g : Option (Nat × Bool)} {ty : TypeId} {x : Operand} {m u : Value} (hr : (Instr.range ty m).run P w = .ok u w') (hx : a.eval x = m) (hw : Region.wanted (⟨d, .range ty x, t, pos, af, g⟩ : Oper) (yielded ops a.tmps) = true) (h : wpList P ops Q rest (a.put d u) w') : wpList P ops Q ((⟨d, .range ty x, t, pos, af, g⟩ : Oper) :: rest) a w :=
  wpList_value hw (exec_range hr hx) h
theorem exec_next {d : Option Tmp} {t : TypeId} {pos : String} {af : Array Edge} {g : Option (Nat × Bool)} {x : Operand} {c : Bool} {m u : Value} (hr : (Instr.next m c t).run P w = .ok u w') (hx : a.eval x = m) : (execOp a.eval (⟨d, .next x c, t, pos, af, g⟩ : Oper)).run P w = .ok (.value u) w' := by
  subst_vars; show (Sem.bind _ _).run P w = _; exact (Sem.run_bind _ _ _ _).trans (by rw [hr]; rfl)
theorem wpList_next {d : Option Tmp} {t : TypeId} {pos : String} {af : Array Edge} {g : Option (Nat × Bool)} {x : Operand} {c : Bool} {m u : Value} (hr : (Instr.next m c t).run P w = .ok u w') (hx : a.eval x = m) (hw : Region.wanted (⟨d, .next x c, t, pos, af, g⟩ : Oper) (yielded ops a.tmps) = true) (h : wpList P ops Q rest (a.put d u) w') : wpList P ops Q ((⟨d, .next x c, t, pos, af, g⟩ : Oper) :: rest) a w :=
  wpList_value hw (exec_next hr hx) h
theorem exec_entry {d : Option Tmp} {t : TypeId} {pos : String} {af : Array Edge} {g : Option (Nat × Bool)} {x : Operand} {m u : Value} (hr : (Instr.entry m).run P w = .ok u w') (hx : a.eval x = m) : (execOp a.eval (⟨d, .entry x, t, pos, af, g⟩ : Oper)).run P w = .ok (.value u) w' := by
  subst_vars; show (Sem.bind _ _).run P w = _; exact (Sem.run_bind _ _ _ _).trans (by rw [hr]; rfl)
theorem wpList_entry {d : Option Tmp} {t : TypeId} {pos : String} {af : Array Edge} {g : Option (Nat × Bool)} {x : Operand} {m u : Value} (hr : (Instr.entry m).run P w = .ok u w') (hx : a.eval x = m) (hw : Region.wanted (⟨d, .entry x, t, pos, af, g⟩ : Oper) (yielded ops a.tmps) = true) (h : wpList P ops Q rest (a.put d u) w') : wpList P ops Q ((⟨d, .entry x, t, pos, af, g⟩ : Oper) :: rest) a w :=
  wpList_value hw (exec_entry hr hx) h
theorem exec_indexAddr {d : Option Tmp} {t : TypeId} {pos : String} {af : Array Edge} {g : Option (Nat × Bool)} {ty : TypeId} {x y : Operand} {v k u : Value} (hr : (Instr.indexAt ty v k).run P w = .ok u w') (hx : a.eval x = v) (hy : a.eval y = k) : (execOp a.eval (⟨d, .indexAddr ty x y, t, pos, af, g⟩ : Oper)).run P w = .ok (.value u) w' := by
  subst_vars; show (Sem.bind _ _).run P w = _; exact (Sem.run_bind _ _ _ _).trans (by rw [hr]; rfl)
theorem wpList_indexAddr {d : Option Tmp} {t : TypeId} {pos : String} {af : Array Edge} {g : Option (Nat × Bool)} {ty : TypeId} {x y : Operand} {v k u : Value} (hr : (Instr.indexAt ty v k).run P w = .ok u w') (hx : a.eval x = v) (hy : a.eval y = k) (hw : Region.wanted (⟨d, .indexAddr ty x y, t, pos, af, g⟩ : Oper) (yielded ops a.tmps) = true) (h : wpList P ops Q rest (a.put d u) w') : wpList P ops Q ((⟨d, .indexAddr ty x y, t, pos, af, g⟩ : Oper) :: rest) a w :=
  wpList_value hw (exec_indexAddr hr hx hy) h
theorem wpStill_indexAddr {Q : Act → Prop} {d : Option Tmp} {t : TypeId} {pos : String} {af : Array Edge} {g : Option (Nat × Bool)} {ty : TypeId} {x y : Operand} {v k u : Value} (hr : (Instr.indexAt ty v k).run P w = .ok u w) (hx : a.eval x = v) (hy : a.eval y = k) (hw : Region.wanted (⟨d, .indexAddr ty x y, t, pos, af, g⟩ : Oper) (yielded ops a.tmps) = true) (h : wpStill P ops w Q rest (a.put d u)) : wpStill P ops w Q ((⟨d, .indexAddr ty x y, t, pos, af, g⟩ : Oper) :: rest) a :=
  wpStill_value hw (exec_indexAddr hr hx hy) h
theorem exec_makeSlice {d : Option Tmp} {t : TypeId} {pos : String} {af : Array Edge} {g : Option (Nat × Bool)} {ty : TypeId} {x y : Operand} {v k u : Value} (hr : (Instr.makeSlice ty v k).run P w = .ok u w') (hx : a.eval x = v) (hy : a.eval y = k) : (execOp a.eval (⟨d, .makeSlice ty x y, t, pos, af, g⟩ : Oper)).run P w = .ok (.value u) w' := by
  subst_vars; show (Sem.bind _ _).run P w = _; exact (Sem.run_bind _ _ _ _).trans (by rw [hr]; rfl)
theorem wpList_makeSlice {d : Option Tmp} {t : TypeId} {pos : String} {af : Array Edge} {g : Option (Nat × Bool)} {ty : TypeId} {x y : Operand} {v k u : Value} (hr : (Instr.makeSlice ty v k).run P w = .ok u w') (hx : a.eval x = v) (hy : a.eval y = k) (hw : Region.wanted (⟨d, .makeSlice ty x y, t, pos, af, g⟩ : Oper) (yielded ops a.tmps) = true) (h : wpList P ops Q rest (a.put d u) w') : wpList P ops Q ((⟨d, .makeSlice ty x y, t, pos, af, g⟩ : Oper) :: rest) a w :=
  wpList_value hw (exec_makeSlice hr hx hy) h
theorem exec_slice {d : Option Tmp} {t : TypeId} {pos : String} {af : Array Edge} {g : Option (Nat × Bool)} {ty : TypeId} {x : Operand} {lo hi mx : Option Operand} {v u : Value} {l h m : Option Value} (hr : (Instr.sliceAt ty v l h m).run P w = .ok u w') (hx : a.eval x = v) (hlo : lo.map a.eval = l) (hhi : hi.map a.eval = h) (hmx : mx.map a.eval = m) : (execOp a.eval (⟨d, .slice ty x lo hi mx, t, pos, af, g⟩ : Oper)).run P w = .ok (.value u) w' := by
  subst_vars; show (Sem.bind _ _).run P w = _; exact (Sem.run_bind _ _ _ _).trans (by rw [hr]; rfl)
theorem wpList_slice {d : Option Tmp} {t : TypeId} {pos : String} {af : Array Edge} {g : Option (Nat × Bool)} {ty : TypeId} {x : Operand} {lo hi mx : Option Operand} {v u : Value} {l h m : Option Value} (hr : (Instr.sliceAt ty v l h m).run P w = .ok u w') (hx : a.eval x = v) (hlo : lo.map a.eval = l) (hhi : hi.map a.eval = h) (hmx : mx.map a.eval = m) (hw : Region.wanted (⟨d, .slice ty x lo hi mx, t, pos, af, g⟩ : Oper) (yielded ops a.tmps) = true) (h : wpList P ops Q rest (a.put d u) w') : wpList P ops Q ((⟨d, .slice ty x lo hi mx, t, pos, af, g⟩ : Oper) :: rest) a w :=
  wpList_value hw (exec_slice hr hx hlo hhi hmx) h
theorem wpStill_slice {Q : Act → Prop} {d : Option Tmp} {t : TypeId} {pos : String} {af : Array Edge} {g : Option (Nat × Bool)} {ty : TypeId} {x : Operand} {lo hi mx : Option Operand} {v u : Value} {l h m : Option Value} (hr : (Instr.sliceAt ty v l h m).run P w = .ok u w) (hx : a.eval x = v) (hlo : lo.map a.eval = l) (hhi : hi.map a.eval = h) (hmx : mx.map a.eval = m) (hw : Region.wanted (⟨d, .slice ty x lo hi mx, t, pos, af, g⟩ : Oper) (yielded ops a.tmps) = true) (h : wpStill P ops w Q rest (a.put d u)) : wpStill P ops w Q ((⟨d, .slice ty x lo hi mx, t, pos, af, g⟩ : Oper) :: rest) a :=
  wpStill_value hw (exec_slice hr hx hlo hhi hmx) h


theorem exec_alloc {d : Option Tmp} {t : TypeId} {pos : String} {af : Array Edge} {g : Option (Nat × Bool)} {ty : TypeId} {u : Value} (hr : (Instr.alloc ty true (.tuple #[])).run P w = .ok u w') : (execOp a.eval (⟨d, .alloc ty, t, pos, af, g⟩ : Oper)).run P w = .ok (.value u) w' := by
  show (Sem.bind _ _).run P w = _; exact (Sem.run_bind _ _ _ _).trans (by rw [hr]; rfl)
theorem wpList_alloc {d : Option Tmp} {t : TypeId} {pos : String} {af : Array Edge} {g : Option (Nat × Bool)} {ty : TypeId} {u : Value} (hr : (Instr.alloc ty true (.tuple #[])).run P w = .ok u w') (hw : Region.wanted (⟨d, .alloc ty, t, pos, af, g⟩ : Oper) (yielded ops a.tmps) = true) (h : wpList P ops Q rest (a.put d u) w') : wpList P ops Q ((⟨d, .alloc ty, t, pos, af, g⟩ : Oper) :: rest) a w :=
  wpList_value hw (exec_alloc hr) h
theorem exec_build0 {d : Option Tmp} {t : TypeId} {pos : String} {af : Array Edge} {g : Option (Nat × Bool)} {ty : TypeId} {u : Value} (hr : (Instr.build ty #[]).run P w = .ok u w') : (execOp a.eval (⟨d, .build ty #[], t, pos, af, g⟩ : Oper)).run P w = .ok (.value u) w' := by
  show (Sem.bind _ _).run P w = _; exact (Sem.run_bind _ _ _ _).trans (by rw [Array.map_empty, hr]; rfl)
theorem wpList_build0 {d : Option Tmp} {t : TypeId} {pos : String} {af : Array Edge} {g : Option (Nat × Bool)} {ty : TypeId} {u : Value} (hr : (Instr.build ty #[]).run P w = .ok u w') (hw : Region.wanted (⟨d, .build ty #[], t, pos, af, g⟩ : Oper) (yielded ops a.tmps) = true) (h : wpList P ops Q rest (a.put d u) w') : wpList P ops Q ((⟨d, .build ty #[], t, pos, af, g⟩ : Oper) :: rest) a w :=
  wpList_value hw (exec_build0 hr) h
theorem wpStill_build0 {Q : Act → Prop} {d : Option Tmp} {t : TypeId} {pos : String} {af : Array Edge} {g : Option (Nat × Bool)} {ty : TypeId} {u : Value} (hr : (Instr.build ty #[]).run P w = .ok u w) (hw : Region.wanted (⟨d, .build ty #[], t, pos, af, g⟩ : Oper) (yielded ops a.tmps) = true) (h : wpStill P ops w Q rest (a.put d u)) : wpStill P ops w Q ((⟨d, .build ty #[], t, pos, af, g⟩ : Oper) :: rest) a :=
  wpStill_value hw (exec_build0 hr) h
/-- What a program says of the type of pages. -/
structure PgTy (P : Program) (T : TypeId) : Prop where
  u : ∃ e, P.underlying T = some (.array 64 e) ∧ P.underlying e = some (.int .u8) ∧ (P.info? e).map (·.size) = some 1
  guard : P.eqGuardType P.depth T = false
  info : (P.info? T).map (fun i => (i.zero, i.size, i.bytes)) = some (some (.agg (cl Pg.zero).toArray), 64, 64)

theorem PgTy.parts {T : TypeId} (h : PgTy P T) : ∃ i, P.info? T = some i ∧ i.zero = some (.agg (cl Pg.zero).toArray) ∧ i.size = 64 ∧ i.bytes = 64 := by
  have := h.info
  cases hq : P.info? T with
  | none => rw [hq] at this; cases this
  | some i =>
    rw [hq] at this
    simp only [Option.map_some, Option.some.injEq, Prod.mk.injEq] at this
    exact ⟨i, rfl, this⟩
theorem PgTy.size {T : TypeId} (h : PgTy P T) : (P.info? T).map (·.size) = some 64 := by
  obtain ⟨i, h1, _, h2, _⟩ := h.parts; simp [h1, h2]
theorem PgTy.zero {T : TypeId} (h : PgTy P T) (w : World) : (zeroValue T).run P w = .ok (.agg (cl Pg.zero).toArray) w := by
  obtain ⟨i, h1, h2, _⟩ := h.parts; simp [zeroValue, typeInfo, h1, h2]

theorem run_load_pg {T : TypeId} (hT : PgTy P T) {b off : Nat} {p : Pg} (h : w.rangeAt b off (cl p)) :
    (Instr.loadAt T (.pointer (some ⟨b, off, none⟩))).run P w = .ok (.agg (cl p).toArray) w := by
  obtain ⟨e, hu, _⟩ := hT.u
  exact run_loadAt_mid w b off T (cl p) _ h hu rfl (by rw [hT.size, cl_length])

theorem run_store_pg {T : TypeId} (hT : PgTy P T) {b off : Nat} {p : Pg} (h : w.there b off 64) :
    (Instr.storeAt T (.pointer (some ⟨b, off, none⟩)) (.agg (cl p).toArray)).run P w = .ok () (w.setCells b off (cl p)) := by
  have := run_storeAt_mid (P := P) w b off T (cl p).toArray (by simpa [cl_length] using h) (by rw [hT.size]; simp [cl_length]) (by
    rw [Array.all_eq_true_iff_forall_mem]
    intro v hv
    exact cl_one p v (by simpa using hv))
  simpa using this

theorem run_eql_pg {T : TypeId} (hT : PgTy P T) (p q : Pg) (w : World) : (binOp .eql T (.agg (cl p).toArray) (.agg (cl q).toArray)).run P w = .ok (.bool (p == q)) w := by
  obtain ⟨e, hu, he, hs⟩ := hT.u
  have hsz : ∀ w, (sizeOf e).run P w = .ok 1 w := fun w => by
    cases hq : P.info? e with
    | none => rw [hq] at hs; cases hs
    | some i =>
      have : i.size = 1 := by simpa [hq] using hs
      simp [sizeOf, typeInfo, hq, this]
  have := run_eql_bytes (P := P) w T e 64 hu he hsz p.toList q.toList (by simp) (by simp)
  have h2 : (p.toList == q.toList) = (p == q) := by
    rw [Bool.eq_iff_iff]
    simp [Vector.toList_inj]
  rw [← h2]; exact this
theorem run_equalIn_pg {T : TypeId} (hT : PgTy P T) (p q : Pg) (w : World) : (Op.equalIn 10000 T (.agg (cl p).toArray) (.agg (cl q).toArray)).run P w = .ok (p == q) w := by
  have h := run_eql_pg hT p q w
  rw [run_eql_struct] at h
  cases hr : (Op.equalIn 10000 T (.agg (cl p).toArray) (.agg (cl q).toArray)).run P w with
  | halt x w' => rw [hr] at h; cases h
  | ok b w' =>
    rw [hr] at h
    simp only [Result.andThen_ok, Result.ok.injEq, Value.bool.injEq] at h ⊢
    exact h
theorem run_neq_pg {T : TypeId} (hT : PgTy P T) (p q : Pg) (w : World) : (binOp .neq T (.agg (cl p).toArray) (.agg (cl q).toArray)).run P w = .ok (.bool (!(p == q))) w := by
  have h := run_eql_pg hT p q w
  rw [run_eql_struct] at h
  rw [run_neq_struct]
  cases hr : (Op.equalIn 10000 T (.agg (cl p).toArray) (.agg (cl q).toArray)).run P w with
  | halt x w' => rw [hr] at h; cases h
  | ok b w' =>
    rw [hr] at h
    simp only [Result.andThen_ok, Result.ok.injEq, Value.bool.injEq] at h ⊢
    exact ⟨by rw [h.1], h.2⟩

/-- A load, a store of one cell. -/
theorem run_loadAt_one {ty : TypeId} {b o : Nat} {v : Value} (hd : (P.underlying ty).map (fun d => match d with | .struct _ | .array _ _ => false | _ => true) = some true) (hc : w.cell? ⟨b, o, none⟩ = some v) :
    (Instr.loadAt ty (.pointer (some ⟨b, o, none⟩))).run P w = .ok v w := by
  cases hu : P.underlying ty with
  | none => rw [hu] at hd; cases hd
  | some d =>
    rw [hu] at hd
    have hagg : (isAgg ty).run P w = .ok false w := by
      unfold isAgg
      rw [Sem.run_bind, run_underlying hu w]
      cases d <;> simp_all
    simp [Instr.loadAt, Instr.sureAddr, loadVar, Sem.run_bind, hagg, load, Sem.run, hc]
theorem run_storeAt_one {ty : TypeId} {b o : Nat} {v u : Value} (hi : (P.info? ty).map (·.size) = some 1) (hc : w.cell? ⟨b, o, none⟩ = some u) (hf : w.frozen? ⟨b, o, none⟩ = false) (h1 : v.oneCell' = true) :
    (Instr.storeAt ty (.pointer (some ⟨b, o, none⟩)) v).run P w = .ok () (w.setCell ⟨b, o, none⟩ v) := by
  cases hq : P.info? ty with
  | none => rw [hq] at hi; cases hi
  | some i =>
    have hs : i.size = 1 := by simpa [hq] using hi
    have hv : v.cells = #[v] := by cases v <;> first | rfl | (simp [Value.oneCell'] at h1)
    have hadd : (⟨b, o, none⟩ : Addr).add 0 = ⟨b, o, none⟩ := rfl
    have hst := run_store P w ⟨b, o, none⟩ v .plain h1
    simp [hc, hf] at hst
    simp [Instr.storeAt, Instr.sureAddr, storeVar, Sem.run_bind, sizeOf, typeInfo, hq, hs, hv, storeCells, hadd, hst]

theorem run_alloc_pg {T : TypeId} (hT : PgTy P T) (w : World) : (Instr.alloc T true (.tuple #[])).run P w = .ok (.pointer (some ⟨w.heap.size, 0, none⟩)) (w.alloc (.cells (cl Pg.zero).toArray T)) := by
  simp [Instr.alloc, Sem.run_bind, hT.zero, newVar, newRow, newObj, Value.cells, Sem.run]
theorem run_build_pg {T : TypeId} (hT : PgTy P T) (w : World) : (Instr.build T #[]).run P w = .ok (.agg (cl Pg.zero).toArray) w := by
  obtain ⟨e, hu, _, hs⟩ := hT.u
  cases hq : P.info? e with
  | none => rw [hq] at hs; cases hs
  | some i => simp [Instr.build, Sem.run_bind, hT.zero, run_underlying hu, sizeOf, typeInfo, hq, Instr.fill, Value.cells]

/-- A page into a page's own block. -/
theorem store_box {T : TypeId} (hT : PgTy P T) {b : Nat} {q : Pg} (hb : Blk w b T (cl q)) (p : Pg) :
    ∃ w', (Instr.storeAt T (.pointer (some ⟨b, 0, none⟩)) (.agg (cl p).toArray)).run P w = .ok () w' ∧ Blk w' b T (cl p) ∧ Fr [b] w w' ∧ w'.heap.size = w.heap.size :=
  ⟨_, run_store_pg hT (hb.there 0 64 (by rw [cl_length]; omega)), by have := hb.setCells (cl p) 0 w _; rwa [over_all _ _ (by rw [cl_length, cl_length])] at this, Fr.setCells b _ _ _ (.refl _ _) (by simp), by simp⟩

/-- A page into a row of pages. -/
theorem store_row {T : TypeId} (hT : PgTy P T) {b : Nat} {l : List Pg} (hb : Blk w b T (flat l)) (i : Nat) (hi : i < l.length) (p : Pg) :
    ∃ w', (Instr.storeAt T (.pointer (some ⟨b, i * 64, none⟩)) (.agg (cl p).toArray)).run P w = .ok () w' ∧ Blk w' b T (flat (l.set i p)) ∧ Fr [b] w w' ∧ w'.heap.size = w.heap.size :=
  ⟨_, run_store_pg hT (hb.there _ 64 (by rw [flat_length]; omega)), by have := hb.setCells (cl p) (i * 64) w _; rwa [over_flat l i p hi] at this, Fr.setCells b _ _ _ (.refl _ _) (by simp), by simp⟩

theorem run_index_row {S E : TypeId} {n : Nat} (hS : P.underlying S = some (.slice E)) (hE : (P.info? E).map (·.size) = some n) (b len cap : Nat) (i : Int) (h0 : 0 ≤ i) (h1 : i < len) (w : World) :
    (Instr.indexAt S (.slice (some ⟨b, 0, none⟩) len cap) (.int .i64 i)).run P w = .ok (.pointer (some ⟨b, i.toNat * n, none⟩)) w := by
  cases hq : P.info? E with
  | none => rw [hq] at hE; cases hE
  | some inf =>
    have hs : inf.size = n := by simpa [hq] using hE
    have hadd : (⟨b, 0, none⟩ : Addr).add (i.toNat * n) = ⟨b, i.toNat * n, none⟩ := by rw [Addr.add_mid]; simp
    simp [Instr.indexAt, asIntOf, run_underlying hS, Sem.run_bind, h0, h1, sizeOf, typeInfo, hq, hs, hadd]

theorem run_index_off {S E : TypeId} {n : Nat} (hS : P.underlying S = some (.slice E)) (hE : (P.info? E).map (·.size) = some n) (b off len cap : Nat) (i : Int) (h0 : 0 ≤ i) (h1 : i < len) (w : World) :
    (Instr.indexAt S (.slice (some ⟨b, off, none⟩) len cap) (.int .i64 i)).run P w = .ok (.pointer (some ⟨b, off + i.toNat * n, none⟩)) w := by
  cases hq : P.info? E with
  | none => rw [hq] at hE; cases hE
  | some inf =>
    have hs : inf.size = n := by simpa [hq] using hE
    have hadd : (⟨b, off, none⟩ : Addr).add (i.toNat * n) = ⟨b, off + i.toNat * n, none⟩ := Addr.add_mid _ _ _
    simp [Instr.indexAt, asIntOf, run_underlying hS, Sem.run_bind, h0, h1, sizeOf, typeInfo, hq, hs, hadd]

theorem madeCells_rep (m : Nat) (v : Value) (k : Nat) : madeCells (List.replicate (m + 1) v).toArray k = (List.replicate k v).toArray := by
  apply Array.ext
  · simp [madeCells]
  · intro j h1 h2
    have h : j % (m + 1) < m + 1 := Nat.mod_lt _ (by omega)
    simp only [madeCells, Array.getElem_map, Array.getElem_range, List.size_toArray, List.length_replicate]
    rw [getElem!_pos _ _ (by simpa using h)]
    simp only [List.getElem_toArray, List.getElem_replicate]

theorem run_makeSlice_pg {S T : TypeId} (hT : PgTy P T) (hS : P.underlying S = some (.slice T)) (n : Int) (h0 : 0 ≤ n) (hn : n ≤ 1000000) (w : World) :
    (Instr.makeSlice S (.int .i64 n) (.int .i64 n)).run P w = .ok (.slice (some ⟨w.heap.size, 0, none⟩) n.toNat n.toNat) (w.alloc (.cells (flat (List.replicate n.toNat Pg.zero)).toArray T)) := by
  obtain ⟨i, h1, h2, h3, h4⟩ := hT.parts
  have := run_make w S T i _ hS h1 h2 .i64 .i64 n n h0 (Int.le_refl _) (by rw [h4]; omega) (by omega)
  rw [this, h3]
  congr 3
  rw [flat_zero, cl_zero]
  exact madeCells_rep 63 _ _

/-- The results of a call: a page that lies in a block of its own, and a number. -/
theorem results_pg_tmp {fn : Func} {p t : Tmp} {T : TypeId} (hf : fn.results = #[.cell p T, .tmp t]) (hT : PgTy P T) (tmps : Array Value) {b : Nat} {q : Pg} (hp : tmps.getD p undef = .pointer (some ⟨b, 0, none⟩)) (hb : Blk w b T (cl q)) :
    (results fn tmps).run P w = .ok (.tuple #[.agg (cl q).toArray, tmps.getD t undef]) w := by
  obtain ⟨e, hu, _⟩ := hT.u
  have := run_loadVar_mid (P := P) w b 0 T (cl q) _ hb.range1 hu rfl (by rw [hT.size, cl_length])
  have hp' : tmps[p]?.getD undef = .pointer (some ⟨b, 0, none⟩) := by simpa using hp
  simp [results, hf, hp', asAddr, this]
theorem results_pg {fn : Func} {p : Tmp} {T : TypeId} (hf : fn.results = #[.cell p T]) (hT : PgTy P T) (tmps : Array Value) {b : Nat} {q : Pg} (hp : tmps.getD p undef = .pointer (some ⟨b, 0, none⟩)) (hb : Blk w b T (cl q)) :
    (results fn tmps).run P w = .ok (.agg (cl q).toArray) w := by
  obtain ⟨e, hu, _⟩ := hT.u
  have := run_loadVar_mid (P := P) w b 0 T (cl q) _ hb.range1 hu rfl (by rw [hT.size, cl_length])
  have hp' : tmps[p]?.getD undef = .pointer (some ⟨b, 0, none⟩) := by simpa using hp
  simp [results, hf, hp', asAddr, this]

theorem run_slice_pg {T : TypeId} (hT : PgTy P T) (b off : Nat) (m : Int) (h0 : 0 ≤ m) (h1 : m ≤ 64) (w : World) :
    (Instr.sliceAt T (.pointer (some ⟨b, off, none⟩)) none (some (.int .i64 m)) none).run P w = .ok (.slice (some ⟨b, off, none⟩) m.toNat 64) w := by
  obtain ⟨e, hu, _, hs⟩ := hT.u
  cases hq : P.info? e with
  | none => rw [hq] at hs; cases hs
  | some i => simp [Instr.sliceAt, run_underlying hu, Sem.run_bind, Instr.sureAddr, Instr.sliceBounds, Instr.sliceBound, asIntOf, h0, h1, sizeOf, typeInfo, hq, Addr.add]
theorem run_slice_pg_all {T : TypeId} (hT : PgTy P T) (b off : Nat) (w : World) :
    (Instr.sliceAt T (.pointer (some ⟨b, off, none⟩)) none none none).run P w = .ok (.slice (some ⟨b, off, none⟩) 64 64) w := by
  obtain ⟨e, hu, _, hs⟩ := hT.u
  cases hq : P.info? e with
  | none => rw [hq] at hs; cases hs
  | some i => simp [Instr.sliceAt, run_underlying hu, Sem.run_bind, Instr.sureAddr, Instr.sliceBounds, sizeOf, typeInfo, hq, Addr.add]

theorem exec_copy {d : Option Tmp} {t : TypeId} {pos : String} {af : Array Edge} {g : Option (Nat × Bool)} {x y : Operand} {ts : Array TypeId} {v u r : Value} (hr : (Builtin.copy_ ts t #[v, u]).run P w = .ok r w') (hx : a.eval x = v) (hy : a.eval y = u) :
    (execOp a.eval (⟨d, .call { callee := .builtin .copy, args := #[x, y], argTypes := ts }, t, pos, af, g⟩ : Oper)).run P w = .ok (.value r) w' := by
  subst_vars; simp [execOp, resolve, invoke, builtin, hr]
theorem wpList_copy {d : Option Tmp} {t : TypeId} {pos : String} {af : Array Edge} {g : Option (Nat × Bool)} {x y : Operand} {ts : Array TypeId} {v u r : Value} (hr : (Builtin.copy_ ts t #[v, u]).run P w = .ok r w') (hx : a.eval x = v) (hy : a.eval y = u) (hw : Region.wanted (⟨d, .call { callee := .builtin .copy, args := #[x, y], argTypes := ts }, t, pos, af, g⟩ : Oper) (yielded ops a.tmps) = true) (h : wpList P ops Q rest (a.put d r) w') :
    wpList P ops Q ((⟨d, .call { callee := .builtin .copy, args := #[x, y], argTypes := ts }, t, pos, af, g⟩ : Oper) :: rest) a w := wpList_value hw (exec_copy hr hx hy) h
theorem exec_clear {d : Option Tmp} {t : TypeId} {pos : String} {af : Array Edge} {g : Option (Nat × Bool)} {x : Operand} {ts : Array TypeId} {v r : Value} (hr : (Builtin.clear_ ts t #[v]).run P w = .ok r w') (hx : a.eval x = v) :
    (execOp a.eval (⟨d, .call { callee := .builtin .clear, args := #[x], argTypes := ts }, t, pos, af, g⟩ : Oper)).run P w = .ok (.value r) w' := by
  subst_vars; simp [execOp, resolve, invoke, builtin, hr]
theorem wpList_clear {d : Option Tmp} {t : TypeId} {pos : String} {af : Array Edge} {g : Option (Nat × Bool)} {x : Operand} {ts : Array TypeId} {v r : Value} (hr : (Builtin.clear_ ts t #[v]).run P w = .ok r w') (hx : a.eval x = v) (hw : Region.wanted (⟨d, .call { callee := .builtin .clear, args := #[x], argTypes := ts }, t, pos, af, g⟩ : Oper) (yielded ops a.tmps) = true) (h : wpList P ops Q rest (a.put d r) w') :
    wpList P ops Q ((⟨d, .call { callee := .builtin .clear, args := #[x], argTypes := ts }, t, pos, af, g⟩ : Oper) :: rest) a w := wpList_value hw (exec_clear hr hx) h

/-- copy(pages[i][:m], p[:]). -/
theorem copy_row {S ty e : TypeId} (hS : P.underlying S = some (.slice e)) (he : (P.info? e).map (·.size) = some 1) {b s : Nat} {l : List Pg} {p : Pg} {tb ts : TypeId} (hb : Blk w b tb (flat l)) (hs : Blk w s ts (cl p)) (i : Nat) (hi : i < l.length) (m cap cap' : Nat) (hm : m ≤ 64) :
    ∃ w', (Builtin.copy_ #[S, S] ty #[.slice (some ⟨b, i * 64, none⟩) m cap, .slice (some ⟨s, 0, none⟩) 64 cap']).run P w = .ok (.int .i64 m) w' ∧ Blk w' b tb (flat (l.set i (Pg.mix p l[i] m))) ∧ Fr [b] w w' ∧ w'.heap.size = w.heap.size := by
  have hlen : ((cl p).take m).length = m := by simp [cl_length]; omega
  have h := run_copy_cells (P := P) w S S ty e b (i * 64) m cap ⟨s, 0, none⟩ 64 cap' ((cl p).take m) hS he (by rw [hlen]; exact (Nat.min_eq_right hm).symm)
    (fun j v hv => by
      rw [Addr.add_mid, Nat.zero_add, hs.cell]
      rw [List.getElem?_take] at hv
      split at hv
      · exact hv
      · cases hv)
    (fun j hj => by rw [hb.cell]; rw [hlen] at hj; simp [flat_length]; omega)
    (fun j hj => hb.frozen _) (fun v hv => cl_one p v (List.mem_of_mem_take hv))
  rw [hlen] at h
  refine ⟨_, h, ?_, Fr.setCells b _ _ _ (.refl _ _) (by simp), by simp⟩
  have := hb.setCells ((cl p).take m) (i * 64) w _
  rwa [over_flat_mix l i p m hi hm] at this

/-- What a program says of a struct's or an array's type of n cells, zero z. -/
structure AggTy (P : Program) (T : TypeId) (n : Nat) (z : List Value) : Prop where
  u : ∃ d, P.underlying T = some d ∧ d.isRow = true
  info : (P.info? T).map (fun i => (i.zero, i.size)) = some (some (.agg z.toArray), n)
theorem AggTy.parts {T : TypeId} {n : Nat} {z : List Value} (h : AggTy P T n z) : ∃ i, P.info? T = some i ∧ i.zero = some (.agg z.toArray) ∧ i.size = n := by
  have := h.info
  cases hq : P.info? T with
  | none => rw [hq] at this; cases this
  | some i =>
    rw [hq] at this
    simp only [Option.map_some, Option.some.injEq, Prod.mk.injEq] at this
    exact ⟨i, rfl, this⟩
theorem AggTy.size {T : TypeId} {n : Nat} {z : List Value} (h : AggTy P T n z) : (P.info? T).map (·.size) = some n := by
  obtain ⟨i, h1, _, h2⟩ := h.parts; simp [h1, h2]
theorem run_load_agg {T : TypeId} {n : Nat} {z : List Value} (hT : AggTy P T n z) {b off : Nat} {cs : List Value} (hn : cs.length = n) (h : w.rangeAt b off cs) :
    (Instr.loadAt T (.pointer (some ⟨b, off, none⟩))).run P w = .ok (.agg cs.toArray) w := by
  obtain ⟨d, hu, hr⟩ := hT.u
  exact run_loadAt_mid w b off T cs d h hu hr (by rw [hT.size, hn])
theorem run_alloc_agg {T : TypeId} {n : Nat} {z : List Value} (hT : AggTy P T n z) (w : World) : (Instr.alloc T true (.tuple #[])).run P w = .ok (.pointer (some ⟨w.heap.size, 0, none⟩)) (w.alloc (.cells z.toArray T)) := by
  obtain ⟨i, h1, h2, _⟩ := hT.parts
  simp [Instr.alloc, Sem.run_bind, zeroValue, typeInfo, h1, h2, newVar, newRow, newObj, Value.cells, Sem.run]
theorem store_agg {T : TypeId} {n : Nat} {z : List Value} (hT : AggTy P T n z) {b : Nat} {t : TypeId} {cs0 cs : List Value} (h0 : cs0.length = n) (hn : cs.length = n) (h1 : ∀ v ∈ cs, v.oneCell' = true) (hb : Blk w b t cs0) :
    ∃ w', (Instr.storeAt T (.pointer (some ⟨b, 0, none⟩)) (.agg cs.toArray)).run P w = .ok () w' ∧ Blk w' b t cs ∧ Fr [b] w w' ∧ w'.heap.size = w.heap.size := by
  have hr := run_storeAt_mid (P := P) w b 0 T cs.toArray (hb.there 0 _ (by simp; omega)) (by rw [hT.size]; simp [hn]) (by
    rw [Array.all_eq_true_iff_forall_mem]
    intro v hv
    exact h1 v (by simpa using hv))
  refine ⟨_, by simpa using hr, ?_, Fr.setCells b _ _ _ (.refl _ _) (by simp), by simp⟩
  have := hb.setCells cs 0 w _
  rwa [over_all _ _ (by omega)] at this
end Go.Nx
