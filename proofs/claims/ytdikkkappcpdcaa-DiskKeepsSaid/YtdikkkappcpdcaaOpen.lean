/- General laws, of no program: what an argument's reading says of its cells: pages, numbers, bytes. -/
import Derived.Test.YtdikkkappcpdcaaBase
import Derived.ProofKit
import Derived.OpenShut
import Derived.ShutString
import Derived.ChangeOld
import Derived.Below
import Derived.Deep.Slices
namespace Go.Nx
open Go Go.RowKit Go.ChangeShapes Go.WideShapes Go.ChangeAt
variable {P : Program}

theorem byte_of_wf {n : Int} (h : (Lit.int .u8 n).wf = true) : ∃ c : UInt8, n = c.toNat := by
  have hx : 0 ≤ n ∧ n ≤ 255 := by simpa [Lit.wf, IntKind.min, IntKind.max, IntKind.signed, IntKind.bits] using h
  refine ⟨UInt8.ofNat n.toNat, ?_⟩
  rw [UInt8.toNat_ofNat']
  omega
theorem int_of_wf {n : Int} (h : (Lit.int .i64 n).wf = true) : -9223372036854775808 ≤ n ∧ n ≤ 9223372036854775807 := by
  simpa [Lit.wf, IntKind.min, IntKind.max, IntKind.signed, IntKind.bits] using h

/-- What reads as an array of 64 bytes is the cells of a page. -/
theorem trod_pg {H : Type} {enc : TypeId × Value → H} {w : World} {base : Nat} {spare : Nat → Bool} {held : Bool} {fuel : Nat} {T E : TypeId} {cs : List Value} {x : DataW H × List MemPlace}
    (hu : P.underlying T = some (.array 64 E)) (he : P.underlying E = some (.int .u8)) (hc : P.cellsOf E = 1) (hcT : P.cellsOf T = 64)
    (h : DataW.trod enc P w base spare held fuel T cs = some x) : ∃ p : Pg, cs = cl p := by
  obtain ⟨xs, m, rfl, _, hlen, hxl, hel⟩ := DataW.trod_array hu h
  have key : ∀ i : Fin 64, ∃ c : UInt8, cs[i.1]? = some (bv c) := by
    intro i
    have h1 := hel i.1 i.2
    rw [hc, Nat.mul_one, List.getElem?_eq_getElem (by omega)] at h1
    obtain ⟨n, h2, _, h3⟩ := DataW.trod_int he h1
    obtain ⟨c, rfl⟩ := byte_of_wf h3
    exact ⟨c, cell_of_cut h2⟩
  have hp := Classical.axiomOfChoice key
  obtain ⟨f, hf⟩ := hp
  refine ⟨Vector.ofFn f, ?_⟩
  apply List.ext_getElem?
  intro j
  by_cases hj : j < 64
  · rw [cl_get _ _ hj, hf ⟨j, hj⟩]; simp
  · rw [List.getElem?_eq_none (by rw [hlen, hcT]; omega), List.getElem?_eq_none (by rw [cl_length]; omega)]

theorem open_pg {H : Type} {enc : TypeId × Value → H} {w : World} {base b2 : Nat} {spare : Nat → Bool} {held : Bool} {T E : TypeId} {v : Value} {d : DataW H} {ps : List MemPlace} {r : Reach}
    (hu : P.underlying T = some (.array 64 E)) (he : P.underlying E = some (.int .u8)) (hc : P.cellsOf E = 1) (hcT : P.cellsOf T = 64)
    (ho : Value.okWide P w r b2 T v) (h : DataW.Trod enc P w base spare held T v d ps) : ∃ p : Pg, v = .agg (cl p).toArray := by
  obtain ⟨fuel, hf⟩ := h
  obtain ⟨p, hp⟩ := trod_pg hu he hc hcT hf
  unfold Value.okWide at ho
  rw [hu] at ho
  obtain ⟨cs, rfl, _⟩ := ho
  refine ⟨p, ?_⟩
  simp only [Value.cells] at hp
  rw [← hp]

/-- v is a slice of the things l; each has sz cells, which enc tells. -/
def SlAt {α : Type} (w : World) (v : Value) (sz : Nat) (enc : α → List Value) (l : List α) : Prop :=
  ∃ a cap, v = .slice a l.length cap ∧ (l ≠ [] → ∃ b off, a = some ⟨b, off, none⟩ ∧ b < w.heap.size ∧ ∀ i (h : i < l.length), w.rangeAt b (off + i * sz) (enc l[i]))

theorem rangeAt_keep {S : List Nat} {w w' : World} {b o : Nat} {cs : List Value} (h : w.rangeAt b o cs) (hf : Fr S w w') (hb : b < w.heap.size) (hs : b ∉ S) : w'.rangeAt b o cs :=
  fun j v hv => (hf.cell (p := ⟨b, o + j, none⟩) hb hs).trans (h j v hv)
theorem rangeAt_below {B : Nat} {w w' : World} {b o : Nat} {cs : List Value} (h : w.rangeAt b o cs) (hf : Below B w w') (hb : b < B) : w'.rangeAt b o cs :=
  fun j v hv => (hf.cell (p := ⟨b, o + j, none⟩) hb).trans (h j v hv)

theorem cells?_get {w : World} {base : Nat} {a : Addr} {n : Nat} {cs : List Value} (h : w.cells? base a n = some cs) : cs.length = n ∧ ∀ j, j < n → w.cell? (a.add j) = cs[j]? := by
  unfold World.cells? at h
  split at h
  · have key : ∀ (l : List Nat) (cs : List Value), l.mapM (fun i => w.cell? (a.add i)) = some cs → cs.length = l.length ∧ ∀ j (hj : j < l.length), w.cell? (a.add l[j]) = cs[j]? := by
      intro l
      induction l with
      | nil => intro cs h; simp at h; subst h; simp
      | cons x l ih =>
        intro cs h
        simp only [List.mapM_cons, Option.bind_eq_bind, Option.bind_eq_some_iff] at h
        obtain ⟨v, hv, vs, hvs, h⟩ := h
        simp only [Option.pure_def, Option.some.injEq] at h
        subst h
        obtain ⟨h1, h2⟩ := ih vs hvs
        refine ⟨by simp [h1], fun j hj => ?_⟩
        cases j with
        | zero => simpa using hv
        | succ j => simpa using h2 j (by simpa using hj)
    obtain ⟨h1, h2⟩ := key _ _ h
    refine ⟨by simpa using h1, fun j hj => ?_⟩
    have := h2 j (by simpa using hj)
    simpa using this
  · cases h

theorem open_sl_cells {H α : Type} {enc' : TypeId × Value → H} {w : World} {base : Nat} {spare : Nat → Bool} {held : Bool} {T E : TypeId} {fuel0 : Nat} {cs0 : List Value} {x0 : DataW H × List MemPlace}
    (hu : P.underlying T = some (.slice E)) (sz : Nat) (hsz : P.cellsOf E = sz) (hpos : 0 < sz) (enc : α → List Value) (ok : α → Prop)
    (hopen : ∀ (fuel : Nat) (cs : List Value) (x : DataW H × List MemPlace), DataW.trod enc' P w base spare held fuel E cs = some x → ∃ y, cs = enc y ∧ ok y)
    (hf : DataW.trod enc' P w base spare held fuel0 T cs0 = some x0) : ∃ v, cs0 = [v] ∧ ∃ l : List α, SlAt w v sz enc l ∧ ∀ y ∈ l, ok y := by
  rcases Deep.open_slice hu hf with ⟨h1, _⟩ | ⟨a, len, cap, m, n, D, Pl, h1, hb, hl, hm, hmm, _, hel⟩
  · exact ⟨_, h1, [], ⟨none, 0, rfl, fun h => absurd rfl h⟩, by simp⟩
  · refine ⟨_, h1, ?_⟩
    clear h1
    have hlm : len ≤ m := by rw [hmm]; split <;> omega
    have key : ∀ i : Fin len, ∃ y : α, ok y ∧ ∀ j, j < sz → w.cell? ((a.add (i.1 * sz)).add j) = (enc y)[j]? := by
      intro i
      obtain ⟨cs, h2, h3⟩ := hel i.1 (by have := i.2; omega)
      obtain ⟨y, rfl, hy⟩ := hopen _ _ _ h3
      rw [hsz] at h2
      exact ⟨y, hy, (cells?_get h2).2⟩
    have klen : ∀ i : Fin len, ∃ y : α, ok y ∧ (enc y).length = sz ∧ ∀ j, j < sz → w.cell? ((a.add (i.1 * sz)).add j) = (enc y)[j]? := by
      intro i
      obtain ⟨cs, h2, h3⟩ := hel i.1 (by have := i.2; omega)
      obtain ⟨y, rfl, hy⟩ := hopen _ _ _ h3
      rw [hsz] at h2
      exact ⟨y, hy, (cells?_get h2).1, (cells?_get h2).2⟩
    obtain ⟨f, hf'⟩ := Classical.axiomOfChoice klen
    refine ⟨List.ofFn f, ⟨some a, cap, by simp, fun hne => ?_⟩, ?_⟩
    · have hlen : 0 < len := by
        rcases Nat.eq_zero_or_pos len with h | h
        · subst h; simp at hne
        · exact h
      obtain ⟨_, h4, h5⟩ := hf' ⟨0, hlen⟩
      have h6 := h5 0 hpos
      rw [Nat.zero_mul] at h6
      have h7 : w.cell? a = some ((enc (f ⟨0, hlen⟩))[0]'(by omega)) := by
        rw [List.getElem?_eq_getElem (by omega)] at h6
        simpa [Addr.add] using h6
      obtain ⟨b, off, spot⟩ := a
      have hspot : spot = none := by simpa [Addr.add] using World.cell?_spot h7
      subst hspot
      refine ⟨b, off, rfl, World.block_lt_of_cell? _ _ h7, fun i hi => ?_⟩
      intro j u hu'
      have hi' : i < len := by simpa using hi
      obtain ⟨_, h8, h9⟩ := hf' ⟨i, hi'⟩
      simp only [List.getElem_ofFn] at hu'
      have hj : j < sz := by
        rcases Nat.lt_or_ge j sz with h | h
        · exact h
        · rw [List.getElem?_eq_none (by omega)] at hu'; cases hu'
      have h10 := h9 j hj
      rw [Addr.add_mid, Addr.add_mid, hu'] at h10
      exact h10
    · intro y hy
      obtain ⟨i, rfl⟩ := List.mem_ofFn.1 hy
      exact (hf' i).1


theorem open_sl {H α : Type} {enc' : TypeId × Value → H} {w : World} {base b2 : Nat} {spare : Nat → Bool} {held : Bool} {T E : TypeId} {v : Value} {d : DataW H} {ps : List MemPlace} {r : Reach}
    (hu : P.underlying T = some (.slice E)) (sz : Nat) (hsz : P.cellsOf E = sz) (hpos : 0 < sz) (enc : α → List Value) (ok : α → Prop)
    (hopen : ∀ (fuel : Nat) (cs : List Value) (x : DataW H × List MemPlace), DataW.trod enc' P w base spare held fuel E cs = some x → ∃ y, cs = enc y ∧ ok y)
    (ho : Value.okWide P w r b2 T v) (h : DataW.Trod enc' P w base spare held T v d ps) : ∃ l : List α, SlAt w v sz enc l ∧ ∀ y ∈ l, ok y := by
  obtain ⟨fuel, hf⟩ := h
  obtain ⟨a0, len0, cap0, rfl⟩ := okWide_slice hu ho
  simp only [Value.cells] at hf
  obtain ⟨v, hv, hl⟩ := open_sl_cells hu sz hsz hpos enc ok hopen hf
  simp only [List.cons.injEq, and_true] at hv
  rw [hv]; exact hl

theorem open_bytes {H : Type} {enc' : TypeId × Value → H} {w : World} {base b2 : Nat} {spare : Nat → Bool} {held : Bool} {T E : TypeId} {v : Value} {d : DataW H} {ps : List MemPlace} {r : Reach}
    (hu : P.underlying T = some (.slice E)) (he : P.underlying E = some (.int .u8)) (hsz : P.cellsOf E = 1)
    (ho : Value.okWide P w r b2 T v) (h : DataW.Trod enc' P w base spare held T v d ps) : ∃ l : List UInt8, SlAt w v 1 (fun c => [bv c]) l := by
  obtain ⟨l, h1, _⟩ := open_sl hu 1 hsz (by omega) (fun c : UInt8 => [bv c]) (fun _ => True) (fun fuel cs x hx => by
    obtain ⟨n, rfl, _, hw⟩ := DataW.trod_int he hx
    obtain ⟨c, rfl⟩ := byte_of_wf hw
    exact ⟨c, rfl, trivial⟩) ho h
  exact ⟨l, h1⟩
theorem open_pgs {H : Type} {enc' : TypeId × Value → H} {w : World} {base b2 : Nat} {spare : Nat → Bool} {held : Bool} {T E B : TypeId} {v : Value} {d : DataW H} {ps : List MemPlace} {r : Reach}
    (hu : P.underlying T = some (.slice E)) (hE : P.underlying E = some (.array 64 B)) (he : P.underlying B = some (.int .u8)) (hc : P.cellsOf B = 1) (hsz : P.cellsOf E = 64)
    (ho : Value.okWide P w r b2 T v) (h : DataW.Trod enc' P w base spare held T v d ps) : ∃ l : List Pg, SlAt w v 64 cl l := by
  obtain ⟨l, h1, _⟩ := open_sl hu 64 hsz (by omega) cl (fun _ => True) (fun fuel cs x hx => by
    obtain ⟨p, rfl⟩ := trod_pg hE he hc hsz hx
    exact ⟨p, rfl, trivial⟩) ho h
  exact ⟨l, h1⟩

theorem open_bytes_cells {H : Type} {enc' : TypeId × Value → H} {w : World} {base : Nat} {spare : Nat → Bool} {held : Bool} {T E : TypeId} {fuel0 : Nat} {cs0 : List Value} {x0 : DataW H × List MemPlace}
    (hu : P.underlying T = some (.slice E)) (he : P.underlying E = some (.int .u8)) (hsz : P.cellsOf E = 1)
    (hf : DataW.trod enc' P w base spare held fuel0 T cs0 = some x0) : ∃ v, cs0 = [v] ∧ ∃ l : List UInt8, SlAt w v 1 (fun c => [bv c]) l := by
  obtain ⟨v, h0, l, h1, _⟩ := open_sl_cells hu 1 hsz (by omega) (fun c : UInt8 => [bv c]) (fun _ => True) (fun fuel cs x hx => by
    obtain ⟨n, rfl, _, hw⟩ := DataW.trod_int he hx
    obtain ⟨c, rfl⟩ := byte_of_wf hw
    exact ⟨c, rfl, trivial⟩) hf
  exact ⟨v, h0, l, h1⟩
end Go.Nx
