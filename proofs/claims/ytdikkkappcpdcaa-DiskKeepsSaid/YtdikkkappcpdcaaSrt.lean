/- The keys of a map with int keys, sorted: slices.Sorted(maps.Keys(m)), by the shelf's contracts. -/
import Derived.Test.YtdikkkappcpdcaaKeys
import Derived.Test.YtdikkkappcpdcaaDsk
import Derived.Maps.Own
namespace Go.Proofs
open Go Go.RowKit Go.Nx Go.Maps Go.Sort Go.Shelf
open Go.WideElems (Fit rd rg)
set_option maxRecDepth 100000
set_option linter.unusedVariables false

/-- An element read as nothing at all. -/
def blind (_ : Value) : Option (DataW Unit × List MemPlace) := some (.nil, [])

theorem owns_of {w : World} {b : Nat} {l : List (Int × Value)} (h : MapIs w b l) (hk : ∀ x ∈ l, 0 ≤ x.1 ∧ x.1 ≤ 1000000) (hl : l.length ≤ 1000000) :
    ∃ D0 : DataW Unit, w.ownsMap Try.prog 3 blind b l.length D0 ∧ (intKeys D0).Perm (l.map (·.1)) ∧ Maps.size D0 = l.length := by
  obtain ⟨es, c, hb, he⟩ := h
  have hlen : es.size = l.length := by simpa using congrArg List.length he.pairs
  have hkey : ∀ x ∈ es.toList, ∃ kv ∈ l, x.key = .int .i64 kv.1 ∧ rd Try.prog 3 blind x = some (.int .i64 kv.1, .nil) := by
    intro x hx
    obtain ⟨kv, hkv, h1, h2⟩ := ents_mem he hx
    refine ⟨kv, hkv, h1, ?_⟩
    have hw : (Lit.int .i64 kv.1).wf = true := by
      have := hk kv hkv
      simp [Lit.wf, IntKind.min, IntKind.max, IntKind.signed, IntKind.bits]; omega
    simp [WideElems.rd, h1, keyOf_int_mk Try.underlying3 hw, blind]
  have hrg : es.toList.map (rg Try.prog 3 blind) = l.map (fun kv => (Lit.int .i64 kv.1, (.nil : DataW Unit))) := by
    apply List.ext_getElem?
    intro i
    have hp := congrArg (fun x : List (Value × Value) => x[i]?) he.pairs
    simp only [List.getElem?_map] at hp ⊢
    cases hx : es.toList[i]? with
    | none =>
      rw [hx] at hp
      cases hy : l[i]? with
      | none => rfl
      | some y => rw [hy] at hp; cases hp
    | some x =>
      rw [hx] at hp
      cases hy : l[i]? with
      | none => rw [hy] at hp; cases hp
      | some y =>
        rw [hy] at hp
        simp only [Option.map_some, Option.some.injEq, Prod.mk.injEq] at hp
        obtain ⟨kv, _, h1, h2⟩ := hkey x (List.mem_of_getElem? hx)
        have : kv.1 = y.1 := by have := h1.symm.trans hp.1; exact ki_inj this
        simp [rg, h2, this]
  refine ⟨.map ((es.toList.map (rg Try.prog 3 blind)).foldr DataW.insert []), ⟨es, c, hb, ⟨?_, ⟨he.clock, ?_, ?_⟩, ?_⟩, by omega, rfl⟩, ?_, ?_⟩
  · unfold maxLen; omega
  · rw [List.nodup_iff_pairwise_ne]
    exact he.borns.imp (fun h => Nat.ne_of_lt h)
  · have hks : es.toList.map (·.key) = l.map (fun kv => ki kv.1) := by
      have := congrArg (fun x : List (Value × Value) => x.map (·.1)) he.pairs
      simpa [Function.comp_def] using this
    rw [hks]
    have hn := he.nodup
    rw [List.nodup_iff_pairwise_ne, List.pairwise_map] at hn ⊢
    exact hn.imp (fun h e => h (ki_inj e))
  · intro x hx
    obtain ⟨kv, _, _, h2⟩ := hkey x hx
    exact ⟨_, h2⟩
  · rw [hrg]
    have h1 := (WideShapes.sorted_perm (l.map (fun kv => (Lit.int .i64 kv.1, (.nil : DataW Unit))))).map (fun p => Go.intOf p.1)
    have h2 : ((l.map (fun kv => (Lit.int .i64 kv.1, (.nil : DataW Unit)))).map fun p => Go.intOf p.1) = l.map (·.1) := by simp [Function.comp_def, Go.intOf]
    rw [h2] at h1
    exact h1
  · rw [hrg]
    have := (WideShapes.sorted_perm (l.map (fun kv => (Lit.int .i64 kv.1, (.nil : DataW Unit))))).length_eq
    simpa [Maps.size] using this

/-- The keys, in order. -/
def sortK (l : List Int) : List Int := l.mergeSort (fun x y => decide (x ≤ y))

/-- A slice of ints that lies in a block of its own, from base on, or is nil. -/
def IntsAt (w : World) (base : Nat) (v : Value) (xs : List Int) : Prop :=
  ∃ a cap, v = .slice a xs.length cap ∧ (xs ≠ [] → ∃ g, a = some ⟨g, 0, none⟩ ∧ base ≤ g ∧ g < w.heap.size ∧ ∀ j (h : j < xs.length), w.cell? ⟨g, j, none⟩ = some (.int .i64 xs[j]))

theorem sortsA (m : Nat) : AnyZI.SortsIn Try.prog Try.sortedA_ren Fence.wide m :=
  ⟨fun blk off cap ss W hH hblk hsz => callsIn_wide.2 (AnyM.slices_Sort_int Try.sortA blk off cap ss W hH hblk hsz),
   fun p cap W => callsIn_wide.2 (AnyM.slices_Sort_int_none Try.sortA p cap W)⟩

theorem keys_any (w : World) (mb : Option Nat) :
    Calls Try.prog 51 #[.map mb] w fun e w' => e = .returned (.func (.func 69) #[] #[ptr w.heap.size]) ∧ w' = w.alloc (.cells #[.map mb] 29) := by
  have cK : CallsIn Fence.wide 5 Try.prog 51 #[.map mb] w fun e w' => e = .returned (.func (.func 69) #[] #[.pointer (some ⟨w.heap.size, 0, none⟩)]) ∧ w' = w.alloc (.cells #[.map mb] 29) := AnyZI.keys_in Try.keysA Fence.wide 5 trivial rfl mb w
  exact callsIn_wide.1 cK

set_option maxHeartbeats 1000000 in
theorem sorted_any (w : World) (b kb : Nat) (l : List (Int × Value)) (h : MapIs w b l) (hkb : Blk w kb 29 [.map (some b)]) (hk : ∀ x ∈ l, 0 ≤ x.1 ∧ x.1 ≤ 1000000) (hl : l.length ≤ 1000000) :
    Calls Try.prog 50 #[.func (.func 69) #[] #[ptr kb]] w fun e w' => ∃ v, e = .returned v ∧ IntsAt w' w.heap.size v (sortK (l.map (·.1))) ∧ Fr [] w w' := by
  obtain ⟨D0, hown, hperm, hsize⟩ := owns_of h hk hl
  have hmax : Maps.size D0 ≤ maxLen := by rw [hsize]; unfold maxLen; omega
  have hbytes : Maps.size D0 * 8 ≤ 140737488355328 := by rw [hsize]; omega
  have hseq : SeqGives Fence.wide 2 Try.prog 69 #[.pointer (some ⟨kb, 0, none⟩)] encZ (fun ss => ss.Perm (intKeys D0)) (Maps.size D0) w :=
    AnyZI.keys_gives (ρ := Try.keysA_ren) { Try.keysA with } Fence.wide _ trivial rfl (by omega) kb b l.length D0 _ hkb.lt (hkb.cell 0) hown
  have cS := AnyZI.sorted_in Try.sortedA Fence.wide 5 trivial trivial trivial trivial rfl (by omega) (sortsA _) (enters_of Try.func68 (by kernel_rfl) rfl) 69 #[.pointer (some ⟨kb, 0, none⟩)] trivial (enters_of Try.func69 (by kernel_rfl) rfl) _ _ hmax hbytes _ hseq
  change CallsIn _ _ Try.prog 50 _ _ _ at cS
  refine (callsIn_wide.1 cS).mono ?_
  rintro e w' ⟨v, ss, rfl, hS, hrow, hnil, hb⟩
  refine ⟨v, rfl, ?_, .of_below _ hb⟩
  have hss : sortK (l.map (·.1)) = ss.mergeSort (fun x y => decide (x ≤ y)) := mergeSort_of_perm_i (hperm.symm.trans hS.symm)
  rw [hss]
  have hlen : (ss.mergeSort (fun x y => decide (x ≤ y))).length = ss.length := List.length_mergeSort _
  obtain ⟨h1, h2⟩ := hrow
  rcases h2 with ⟨h2, h3⟩ | ⟨g, cap, cur, h3, h4, h5, h6, h7, h8, h9⟩
  · have : ss = [] := hnil.1 h2
    subst this
    exact ⟨none, 0, by simpa using h2, fun h => absurd (by simp) h⟩
  · refine ⟨_, cap, by rw [hlen]; exact h3, fun _ => ⟨g, rfl, h4, lt_of_blk h5, fun j hj => ?_⟩⟩
    have h10 := congrArg (fun x : List Value => x[j]?) h9
    simp only [Nat.mul_one, List.getElem?_map, List.getElem?_eq_getElem hj, Option.map_some, encZ] at h10
    rw [hlen] at hj
    rw [List.getElem?_take, if_pos hj] at h10
    rw [cell_of_row w' g j cur _ _ h5, ← h10]
    simp
end Go.Proofs
