/- General laws, of no program: what an argument's reading says of its cells: pages, numbers, bytes. -/
import Derived.Test.YtdikkkappcpdcaaBase
import Derived.ProofKit
import Derived.OpenShut
import Derived.ShutString
import Derived.ChangeOld
import Derived.Below
namespace Go.Nx
open Go Go.RowKit Go.ChangeShapes Go.WideShapes Go.ChangeAt
variable {P : Program}

theorem byte_of_wf {n : Int} (h : (Lit.int .u8 n).wf = true) : ∃ c : UInt8, n = c.toNat := by
  have hx : 0 ≤ n ∧ n ≤ 255 := by simpa [Lit.wf, IntKind.min, IntKind.max, IntKind.signed, IntKind.bits] using h
  refine ⟨UInt8.ofNat n.toNat, ?_⟩
  rw [UInt8.toNat_ofNat']
  omega
theorem int_of_wf {n : Int} (h : (Lit.int .i64 n).wf = true) : -9223372036854775808 ≤ n ∧ n ≤ 9223372036854775807 := by
  simpa [Lit.wf, IntKind.min, IntKind.max, IntKind.signed, IntKind.bits] using h

/-- What reads as an array of 64 bytes is the cells of a page. -/
theorem trod_pg {H : Type} {enc : TypeId × Value → H} {w : World} {base : Nat} {spare : Nat → Bool} {held : Bool} {fuel : Nat} {T E : TypeId} {cs : List Value} {x : DataW H × List MemPlace}
    (hu : P.underlying T = some (.array 64 E)) (he : P.underlying E = some (.int .u8)) (hc : P.cellsOf E = 1) (hcT : P.cellsOf T = 64)
    (h : DataW.trod enc P w base spare held fuel T cs = some x) : ∃ p : Pg, cs = cl p := by
  obtain ⟨xs, m, rfl, _, hlen, hxl, hel⟩ := DataW.trod_array hu h
  have key : ∀ i : Fin 64, ∃ c : UInt8, cs[i.1]? = some (bv c) := by
    intro i
    have h1 := hel i.1 i.2
    rw [hc, Nat.mul_one, List.getElem?_eq_getElem (by omega)] at h1
    obtain ⟨n, h2, _, h3⟩ := DataW.trod_int he h1
    obtain ⟨c, rfl⟩ := byte_of_wf h3
    exact ⟨c, cell_of_cut h2⟩
  have hp := Classical.axiomOfChoice key
  obtain ⟨f, hf⟩ := hp
  refine ⟨Vector.ofFn f, ?_⟩
  apply List.ext_getElem?
  intro j
  by_cases hj : j < 64
  · rw [cl_get _ _ hj, hf ⟨j, hj⟩]; simp
  · rw [List.getElem?_eq_none (by rw [hlen, hcT]; omega), List.getElem?_eq_none (by rw [cl_length]; omega)]

theorem open_pg {H : Type} {enc : TypeId × Value → H} {w : World} {base b2 : Nat} {spare : Nat → Bool} {held : Bool} {T E : TypeId} {v : Value} {d : DataW H} {ps : List MemPlace} {r : Reach}
    (hu : P.underlying T = some (.array 64 E)) (he : P.underlying E = some (.int .u8)) (hc : P.cellsOf E = 1) (hcT : P.cellsOf T = 64)
    (ho : Value.okWide P w r b2 T v) (h : DataW.Trod enc P w base spare held T v d ps) : ∃ p : Pg, v = .agg (cl p).toArray := by
  obtain ⟨fuel, hf⟩ := h
  obtain ⟨p, hp⟩ := trod_pg hu he hc hcT hf
  unfold Value.okWide at ho
  rw [hu] at ho
  obtain ⟨cs, rfl, _⟩ := ho
  refine ⟨p, ?_⟩
  simp only [Value.cells] at hp
  rw [← hp]
end Go.Nx
