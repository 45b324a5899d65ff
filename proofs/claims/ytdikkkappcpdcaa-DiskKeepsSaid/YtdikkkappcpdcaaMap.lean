/- General laws, of no program: a map with int keys as a list of pairs: look-up, store, delete, clear, length, going through it. -/
import Derived.Test.YtdikkkappcpdcaaBase
namespace Go.Nx
open Go Go.RowKit

/-- Two lists, member by member. -/
inductive All2 {α β : Type} (R : α → β → Prop) : List α → List β → Prop
  | nil : All2 R [] []
  | cons {a : α} {b : β} {l : List α} {m : List β} : R a b → All2 R l m → All2 R (a :: l) (b :: m)

abbrev ki (k : Int) : Value := .int .i64 k
theorem ki_inj {a b : Int} (h : ki a = ki b) : a = b := by unfold ki at h; injection h

/-- es (with clock c) are the entries of the pairs l. -/
structure Ents (es : Array MapEntry) (c : Nat) (l : List (Int × Value)) : Prop where
  pairs : es.toList.map (fun e => (e.key, e.val)) = l.map (fun kv => (ki kv.1, kv.2))
  borns : (es.toList.map (·.born)).Pairwise (· < ·)
  clock : ∀ e ∈ es.toList, e.born < c
  nodup : (l.map (·.1)).Nodup

/-- Block b is a map of the pairs l. -/
def MapIs (w : World) (b : Nat) (l : List (Int × Value)) : Prop := ∃ es c, w.heap[b]? = some (.map es c) ∧ Ents es c l

theorem MapIs.lt {w : World} {b : Nat} {l : List (Int × Value)} (h : MapIs w b l) : b < w.heap.size := let ⟨_, _, h, _⟩ := h; lt_of_blk h
theorem MapIs.keep {S : List Nat} {w w' : World} {b : Nat} {l : List (Int × Value)} (h : MapIs w b l) (hf : Fr S w w') (hb : b ∉ S) : MapIs w' b l :=
  let ⟨es, c, h1, h2⟩ := h; ⟨es, c, (hf.block b (lt_of_blk h1) hb).trans h1, h2⟩
theorem MapIs.nodup {w : World} {b : Nat} {l : List (Int × Value)} (h : MapIs w b l) : (l.map (·.1)).Nodup := let ⟨_, _, _, h⟩ := h; h.nodup

theorem Ents.empty (c : Nat) : Ents #[] c [] := ⟨rfl, List.Pairwise.nil, by simp, by simp⟩

theorem MapIs.of_new (w : World) : MapIs (w.alloc (.map #[] 0)) w.heap.size [] := ⟨#[], 0, heap_alloc_new w _, .empty 0⟩

/-- The place and value of a key. -/
def seek (k : Int) : List (Int × Value) → Nat → Option (Nat × Value)
  | [], _ => none
  | kv :: l, i => if kv.1 = k then some (i, kv.2) else seek k l (i + 1)

theorem findNow_int (k : Int) : ∀ (es : List MapEntry) (l : List (Int × Value)) (i : Nat), es.map (fun e => (e.key, e.val)) = l.map (fun kv => (ki kv.1, kv.2)) →
    Instr.findNow (.int .i64) (ki k) es i = some (seek k l i)
  | [], [], _, _ => rfl
  | [], _ :: _, _, h => by simp at h
  | _ :: _, [], _, h => by simp at h
  | e :: es, kv :: l, i, h => by
    simp only [List.map_cons, List.cons.injEq, Prod.mk.injEq] at h
    obtain ⟨⟨h1, h2⟩, h3⟩ := h
    unfold Instr.findNow seek
    rw [h1]
    have hs : Instr.sameNow (.int .i64) (ki k) (ki kv.1) = some (k == kv.1) := by simp [Instr.sameNow, ki]
    rw [hs]
    by_cases e : kv.1 = k
    · simp [e, h2]
    · have e' : (k == kv.1) = false := by simp; exact fun h => e h.symm
      simp only [e', if_neg e]
      exact findNow_int k es l (i + 1) h3

variable {P : Program}

theorem run_findKey {es : Array MapEntry} {c : Nat} {l : List (Int × Value)} (h : Ents es c l) (kT : TypeId) (hk : P.underlying kT = some (.int .i64)) (k : Int) (w : World) :
    (Instr.findKey kT (ki k) es.toList).run P w = .ok (seek k l 0) w := by
  simp [Instr.findKey, run_underlying hk, findNow_int k es.toList l 0 h.pairs]

theorem run_checkKey (b : Bool) (kT : TypeId) (hk : P.underlying kT = some (.int .i64)) (k : Int) (w : World) :
    (Instr.checkKey b 10000 kT (ki k)).run P w = .ok () w := by
  rw [show (10000 : Nat) = 9999 + 1 from rfl]
  unfold Instr.checkKey ki
  rw [Sem.run_bind, run_underlying hk]
  rfl

/-- What a look-up answers. -/
def mget (l : List (Int × Value)) (k : Int) : Option Value := (seek k l 0).map (·.2)

theorem run_lookup {w : World} {b : Nat} {l : List (Int × Value)} (h : MapIs w b l) (T kT eT : TypeId) (hT : P.underlying T = some (.map kT eT)) (hk : P.underlying kT = some (.int .i64))
    (z : Value) (hz : ∀ w : World, (zeroValue eT).run P w = .ok z w) (k : Int) (ok : Bool) :
    (Instr.lookup T (.map (some b)) (.int .i64 k) ok).run P w = .ok (if ok then .tuple #[(mget l k).getD z, .bool (mget l k).isSome] else (mget l k).getD z) w := by
  obtain ⟨es, c, hb, he⟩ := h
  have h1 := run_findKey he kT hk k w
  have h2 := run_checkKey (P := P) es.isEmpty kT hk k w
  simp only [ki] at h1 h2
  simp only [Instr.lookup, Sem.run_bind, run_underlying hT, Result.andThen_ok, getObj, Sem.run, hb, Sem.run_pure, h2, h1]
  unfold mget
  cases seek k l 0 with
  | none => simp [hz]
  | some x => simp

/-- The pairs with k at v. -/
def ins (l : List (Int × Value)) (k : Int) (v : Value) : List (Int × Value) :=
  match seek k l 0 with
  | some (i, _) => l.set i (k, v)
  | none => l ++ [(k, v)]

theorem seek_some {k : Int} {v : Value} : ∀ {l : List (Int × Value)} {i j : Nat}, seek k l j = some (i, v) → j ≤ i ∧ l[i - j]? = some (k, v)
  | [], _, _, h => by simp [seek] at h
  | kv :: l, i, j, h => by
    unfold seek at h
    split at h
    · rename_i e
      simp only [Option.some.injEq, Prod.mk.injEq] at h
      obtain ⟨rfl, rfl⟩ := h
      refine ⟨Nat.le_refl _, ?_⟩
      subst e
      simp
    · obtain ⟨h1, h2⟩ := seek_some h
      refine ⟨by omega, ?_⟩
      rw [show i - j = (i - (j + 1)) + 1 by omega]
      simpa using h2
theorem seek_none {k : Int} : ∀ {l : List (Int × Value)} {j : Nat}, seek k l j = none ↔ k ∉ l.map (·.1)
  | [], _ => by simp [seek]
  | kv :: l, j => by
    unfold seek
    split
    · rename_i e; simp [e]
    · rename_i e
      have := @seek_none k l (j + 1)
      simp only [this, List.map_cons, List.mem_cons, not_or]
      exact ⟨fun h => ⟨fun h' => e h'.symm, h⟩, fun h => h.2⟩

theorem ents_modify {es : Array MapEntry} {c : Nat} {l : List (Int × Value)} (h : Ents es c l) {i : Nat} {k : Int} {v u : Value} (hi : l[i]? = some (k, u)) :
    Ents (es.modify i fun e => { e with key := ki k, val := v }) c (l.set i (k, v)) := by
  have hil : i < l.length := by
    rcases Nat.lt_or_ge i l.length with h' | h'
    · exact h'
    · rw [List.getElem?_eq_none h'] at hi; cases hi
  refine ⟨?_, ?_, ?_, ?_⟩
  · apply List.ext_getElem?
    intro j
    have hp := congrArg (fun x : List (Value × Value) => x[j]?) h.pairs
    simp only [List.getElem?_map, Array.toList_modify, List.getElem?_modify, List.getElem?_set] at hp ⊢
    by_cases e : i = j
    · subst e
      have hsz : ∃ x, es.toList[i]? = some x := by
        cases hx : es.toList[i]? with
        | some x => exact ⟨x, rfl⟩
        | none => rw [hx, hi] at hp; simp at hp
      obtain ⟨x, hx⟩ := hsz
      simp [hx, hil]
    · simpa [e] using hp
  · have : (es.modify i fun e => { e with key := ki k, val := v }).toList.map (·.born) = es.toList.map (·.born) := by
      apply List.ext_getElem?
      intro j
      simp only [List.getElem?_map, Array.toList_modify, List.getElem?_modify]
      by_cases e : i = j
      · subst e; cases es.toList[i]? <;> simp
      · simp [e]
    rw [this]; exact h.borns
  · intro e he
    simp only [Array.toList_modify] at he
    obtain ⟨j, hj⟩ := List.getElem?_of_mem he
    rw [List.getElem?_modify] at hj
    cases hx : es.toList[j]? with
    | none => rw [hx] at hj; cases hj
    | some x =>
      rw [hx] at hj
      have hm := h.clock x (List.mem_of_getElem? hx)
      have hj' : (if i = j then { x with key := ki k, val := v } else x) = e := by
        by_cases hij : i = j
        · simpa [hij] using hj
        · simpa [hij] using hj
      rw [← hj']; split <;> exact hm
  · have : (l.set i (k, v)).map (·.1) = l.map (·.1) := by
      apply List.ext_getElem?
      intro j
      simp only [List.getElem?_map, List.getElem?_set]
      by_cases e : i = j
      · subst e; simp [hil]
        rw [List.getElem?_eq_getElem hil] at hi
        simp only [Option.some.injEq] at hi
        rw [hi]
      · simp [e]
    rw [this]; exact h.nodup

theorem ents_push {es : Array MapEntry} {c : Nat} {l : List (Int × Value)} (h : Ents es c l) {k : Int} (v : Value) (hk : k ∉ l.map (·.1)) :
    Ents (es.push { key := ki k, val := v, born := c }) (c + 1) (l ++ [(k, v)]) := by
  refine ⟨?_, ?_, ?_, ?_⟩
  · simp [h.pairs]
  · simp only [Array.toList_push, List.map_append, List.map_cons, List.map_nil]
    refine List.pairwise_append.2 ⟨h.borns, by simp, fun a ha b hb => ?_⟩
    simp only [List.mem_map] at ha
    obtain ⟨e, he, rfl⟩ := ha
    simp only [List.mem_singleton] at hb
    subst hb
    exact h.clock e he
  · intro e he
    simp only [Array.toList_push, List.mem_append, List.mem_singleton] at he
    rcases he with he | rfl
    · have := h.clock e he; omega
    · simp
  · rw [List.map_append, List.nodup_append]
    refine ⟨h.nodup, by simp, ?_⟩
    intro a ha b hb
    simp only [List.map_cons, List.map_nil, List.mem_singleton] at hb
    subst hb
    exact fun e => hk (e ▸ ha)

theorem run_mapUpdate {w : World} {b : Nat} {l : List (Int × Value)} (h : MapIs w b l) (T kT eT : TypeId) (hT : P.underlying T = some (.map kT eT)) (hk : P.underlying kT = some (.int .i64))
    (k : Int) (v : Value) :
    ∃ o, (Instr.mapUpdate T (.map (some b)) (.int .i64 k) v).run P w = .ok () (w.setBlk b o) ∧ MapIs (w.setBlk b o) b (ins l k v) := by
  have hlt := h.lt
  obtain ⟨es, c, hb, he⟩ := h
  have h1 := run_findKey he kT hk k w
  have h2 := run_checkKey (P := P) false kT hk k w
  simp only [ki] at h1 h2
  cases hs : seek k l 0 with
  | none =>
    rw [hs] at h1
    refine ⟨.map (es.push { key := ki k, val := v, born := c }) (c + 1), ?_, ?_⟩
    · simp only [Instr.mapUpdate, Sem.run_bind, run_underlying hT, Result.andThen_ok, getObj, Sem.run, hb, Sem.run_pure, h2, h1, setObj]
      rfl
    · refine ⟨_, _, setBlk_same hlt, ?_⟩
      unfold ins; rw [hs]
      exact ents_push he v (seek_none.1 hs)
  | some x =>
    obtain ⟨i, u⟩ := x
    rw [hs] at h1
    have hi := (seek_some hs).2
    simp only [Nat.sub_zero] at hi
    have hold : ((es[i]?).map (·.key)).getD (.int .i64 k) = ki k := by
      have hp := congrArg (fun x : List (Value × Value) => x[i]?) he.pairs
      simp only [List.getElem?_map, hi, Array.getElem?_toList] at hp
      cases hx : es[i]? with
      | none => rfl
      | some x => rw [hx] at hp; simp at hp; simp [hp.1]
    refine ⟨.map (es.modify i fun e => { e with key := ki k, val := v }) c, ?_, ?_⟩
    · have hst : (Instr.keyThatStays (ki k) (.int .i64 k)).run P w = .ok (ki k) w := by
        simp [Instr.keyThatStays, Instr.sameBits, ki]
      simp only [Instr.mapUpdate, Sem.run_bind, run_underlying hT, Result.andThen_ok, getObj, Sem.run, hb, Sem.run_pure, h2, h1, setObj, hold, hst]
      rfl
    · refine ⟨_, _, setBlk_same hlt, ?_⟩
      unfold ins; rw [hs]
      exact ents_modify he hi

theorem run_len {w : World} {b : Nat} {l : List (Int × Value)} (h : MapIs w b l) (T kT eT ty : TypeId) (hT : P.underlying T = some (.map kT eT)) :
    (Builtin.len_ #[T] ty #[.map (some b)]).run P w = .ok (.int .i64 l.length) w := by
  obtain ⟨es, c, hb, he⟩ := h
  have hl : es.size = l.length := by
    have := congrArg List.length he.pairs
    simpa using this
  simp [Builtin.len_, run_underlying hT, getObj, Sem.run, hb, goInt, hl]

theorem run_clear {w : World} {b : Nat} {l : List (Int × Value)} (h : MapIs w b l) (T kT eT ty : TypeId) (hT : P.underlying T = some (.map kT eT)) :
    ∃ o, (Builtin.clear_ #[T] ty #[.map (some b)]).run P w = .ok (.tuple #[]) (w.setBlk b o) ∧ MapIs (w.setBlk b o) b [] := by
  have hlt := h.lt
  obtain ⟨es, c, hb, he⟩ := h
  refine ⟨.map #[] c, ?_, ?_⟩
  · simp [Builtin.clear_, run_underlying hT, getObj, Sem.run, hb, setObj, World.setBlk]
  · exact ⟨_, _, setBlk_same hlt, .empty c⟩

/-! ### going through a map that stays as it is -/
/-- r is an iterator over the map b (pairs l): done is what it has handed out, in order. -/
def IterIs (w : World) (r b : Nat) (l : List (Int × Value)) (done : List (Int × Value)) : Prop :=
  ∃ es c seen, w.heap[b]? = some (.map es c) ∧ Ents es c l ∧ w.heap[r]? = some (.mapIter (some b) c seen c) ∧
    All2 (fun n kv => ∃ e ∈ es.toList, e.born = n ∧ e.key = ki kv.1 ∧ e.val = kv.2) seen.toList done ∧ seen.toList.Nodup

theorem IterIs.keep {S : List Nat} {w w' : World} {r b : Nat} {l done : List (Int × Value)} (h : IterIs w r b l done) (hf : Fr S w w') (hr : r ∉ S) (hb : b ∉ S) : IterIs w' r b l done :=
  let ⟨es, c, seen, h1, h2, h3, h4, h5⟩ := h
  ⟨es, c, seen, (hf.block b (lt_of_blk h1) hb).trans h1, h2, (hf.block r (lt_of_blk h3) hr).trans h3, h4, h5⟩
theorem IterIs.map {w : World} {r b : Nat} {l done : List (Int × Value)} (h : IterIs w r b l done) : MapIs w b l :=
  let ⟨es, c, _, h1, h2, _⟩ := h; ⟨es, c, h1, h2⟩
theorem IterIs.lt {w : World} {r b : Nat} {l done : List (Int × Value)} (h : IterIs w r b l done) : r < w.heap.size :=
  let ⟨_, _, _, _, _, h3, _⟩ := h; lt_of_blk h3

theorem run_range {w : World} {b : Nat} {l : List (Int × Value)} (h : MapIs w b l) (T kT eT : TypeId) (hT : P.underlying T = some (.map kT eT)) :
    ∃ o, (Instr.range T (.map (some b))).run P w = .ok (.pointer (some ⟨w.heap.size, 0, none⟩)) (w.alloc o) ∧ IterIs (w.alloc o) w.heap.size b l [] := by
  obtain ⟨es, c, hb, he⟩ := h
  refine ⟨.mapIter (some b) c #[] c, ?_, ?_⟩
  · simp [Instr.range, run_underlying hT, getObj, Sem.run, hb, newObj]
  · exact ⟨es, c, #[], (Below.heap_alloc w _ b (lt_of_blk hb)).trans hb, he, heap_alloc_new w _, All2.nil, by simp⟩

theorem ents_born_inj {es : Array MapEntry} {c : Nat} {l : List (Int × Value)} (h : Ents es c l) {e e' : MapEntry} (he : e ∈ es.toList) (he' : e' ∈ es.toList) (hb : e.born = e'.born) : e = e' := by
  have hp := h.borns
  rw [List.pairwise_map] at hp
  obtain ⟨i, hi, rfl⟩ := List.mem_iff_getElem.1 he
  obtain ⟨j, hj, rfl⟩ := List.mem_iff_getElem.1 he'
  have hp' := List.pairwise_iff_getElem.1 hp
  rcases Nat.lt_trichotomy i j with h' | h' | h'
  · have := hp' i j hi hj h'; omega
  · subst h'; rfl
  · have := hp' j i hj hi h'; omega

theorem ents_mem {es : Array MapEntry} {c : Nat} {l : List (Int × Value)} (h : Ents es c l) {e : MapEntry} (he : e ∈ es.toList) : ∃ kv ∈ l, e.key = ki kv.1 ∧ e.val = kv.2 := by
  have : (e.key, e.val) ∈ es.toList.map (fun e => (e.key, e.val)) := List.mem_map.2 ⟨e, he, rfl⟩
  rw [h.pairs, List.mem_map] at this
  obtain ⟨kv, hkv, h'⟩ := this
  simp only [Prod.mk.injEq] at h'
  exact ⟨kv, hkv, h'.1.symm, h'.2.symm⟩
theorem ents_mem' {es : Array MapEntry} {c : Nat} {l : List (Int × Value)} (h : Ents es c l) {kv : Int × Value} (hkv : kv ∈ l) : ∃ e ∈ es.toList, e.key = ki kv.1 ∧ e.val = kv.2 := by
  have : (ki kv.1, kv.2) ∈ l.map (fun kv => (ki kv.1, kv.2)) := List.mem_map.2 ⟨kv, hkv, rfl⟩
  rw [← h.pairs, List.mem_map] at this
  obtain ⟨e, he, h'⟩ := this
  simp only [Prod.mk.injEq] at h'
  exact ⟨e, he, h'.1, h'.2⟩

theorem pairs_inj {l : List (Int × Value)} (h : (l.map (·.1)).Nodup) {a b : Int × Value} (ha : a ∈ l) (hb : b ∈ l) (e : a.1 = b.1) : a = b := by
  obtain ⟨i, hi, rfl⟩ := List.mem_iff_getElem.1 ha
  obtain ⟨j, hj, rfl⟩ := List.mem_iff_getElem.1 hb
  have := (List.nodup_iff_pairwise_ne.1 h)
  rw [List.pairwise_map] at this
  have hp' := List.pairwise_iff_getElem.1 this
  rcases Nat.lt_trichotomy i j with h' | h' | h'
  · exact absurd e (hp' i j hi hj h')
  · subst h'; rfl
  · exact absurd e.symm (hp' j i hj hi h')

theorem all2_mem {α β : Type} {R : α → β → Prop} : ∀ {l : List α} {m : List β}, All2 R l m → ∀ a ∈ l, ∃ b ∈ m, R a b
  | _, _, .nil, _, h => by cases h
  | _, _, .cons h t, a, hm => by
    rcases List.mem_cons.1 hm with rfl | hm
    · exact ⟨_, List.mem_cons_self, h⟩
    · obtain ⟨b, hb, hr⟩ := all2_mem t a hm; exact ⟨b, List.mem_cons_of_mem _ hb, hr⟩
theorem all2_mem' {α β : Type} {R : α → β → Prop} : ∀ {l : List α} {m : List β}, All2 R l m → ∀ b ∈ m, ∃ a ∈ l, R a b
  | _, _, .nil, _, h => by cases h
  | _, _, .cons h t, a, hm => by
    rcases List.mem_cons.1 hm with rfl | hm
    · exact ⟨_, List.mem_cons_self, h⟩
    · obtain ⟨b, hb, hr⟩ := all2_mem' t a hm; exact ⟨b, List.mem_cons_of_mem _ hb, hr⟩
theorem all2_snoc {α β : Type} {R : α → β → Prop} : ∀ {l : List α} {m : List β} {a : α} {b : β}, All2 R l m → R a b → All2 R (l ++ [a]) (m ++ [b])
  | _, _, _, _, .nil, h => .cons h .nil
  | _, _, _, _, .cons h t, h' => .cons h (all2_snoc t h')

theorem iter_done_mem {w : World} {r b : Nat} {l done : List (Int × Value)} (h : IterIs w r b l done) : ∀ kv ∈ done, kv ∈ l := by
  obtain ⟨es, c, seen, _, h2, _, h4, _⟩ := h
  intro kv hkv
  obtain ⟨n, _, e, he, _, h6, h7⟩ := all2_mem' h4 kv hkv
  obtain ⟨kv', hkv', h8, h9⟩ := ents_mem h2 he
  have : kv = kv' := Prod.ext (ki_inj (h6.symm.trans h8)) (h7.symm.trans h9)
  exact this ▸ hkv'

theorem iter_done_nodup {w : World} {r b : Nat} {l done : List (Int × Value)} (h : IterIs w r b l done) : (done.map (·.1)).Nodup := by
  obtain ⟨es, c, seen, _, h2, _, h4, h5⟩ := h
  generalize seen.toList = s at h4 h5
  induction h4 with
  | nil => simp
  | @cons n kv s' done' hr t ih =>
    rw [List.nodup_cons] at h5
    rw [List.map_cons, List.nodup_cons]
    refine ⟨fun hm => h5.1 ?_, ih h5.2⟩
    obtain ⟨kv', hkv', e⟩ := List.mem_map.1 hm
    obtain ⟨n', hn', e', he', hb', hk', hv'⟩ := all2_mem' t kv' hkv'
    obtain ⟨e1, he1, hb1, hk1, hv1⟩ := hr
    -- one key, one entry
    obtain ⟨q, hq, hq1, hq2⟩ := ents_mem h2 he'
    obtain ⟨q1, hq1', hq11, hq12⟩ := ents_mem h2 he1
    have hkeys : q = q1 := pairs_inj h2.nodup hq hq1' (by
      have a1 := ki_inj (hk'.symm.trans hq1)
      have a2 := ki_inj (hk1.symm.trans hq11)
      rw [← a1, ← a2, e])
    have hidx : e' = e1 := by
      obtain ⟨i, hi, rfl⟩ := List.mem_iff_getElem.1 he'
      obtain ⟨j, hj, rfl⟩ := List.mem_iff_getElem.1 he1
      have hl : es.toList.length = l.length := by simpa using congrArg List.length h2.pairs
      have hpi := congrArg (fun x : List (Value × Value) => x[i]?) h2.pairs
      have hpj := congrArg (fun x : List (Value × Value) => x[j]?) h2.pairs
      simp only [List.getElem?_map, List.getElem?_eq_getElem hi, List.getElem?_eq_getElem hj, List.getElem?_eq_getElem (hl ▸ hi), List.getElem?_eq_getElem (hl ▸ hj), Option.map_some, Option.some.injEq, Prod.mk.injEq] at hpi hpj
      have hkk : (l[i]'(hl ▸ hi)).1 = (l[j]'(hl ▸ hj)).1 := ki_inj (hpi.1.symm.trans ((hk'.trans (by rw [e])).trans (hk1.symm.trans hpj.1)))
      have hij : i = j := by
        have := (List.nodup_iff_pairwise_ne.1 h2.nodup)
        rw [List.pairwise_map] at this
        have hp' := List.pairwise_iff_getElem.1 this
        rcases Nat.lt_trichotomy i j with h' | h' | h'
        · exact absurd hkk (hp' i j (hl ▸ hi) (hl ▸ hj) h')
        · exact h'
        · exact absurd hkk.symm (hp' j i (hl ▸ hj) (hl ▸ hi) h')
      subst hij; rfl
    rw [← hb1, ← hidx, hb']; exact hn'

theorem iter_len {w : World} {r b : Nat} {l done : List (Int × Value)} (h : IterIs w r b l done) : done.length ≤ l.length := by
  have h1 := iter_done_nodup h
  have h2 := iter_done_mem h
  have := List.Nodup.length_le_of_subset h1 (l₂ := l.map (·.1)) (fun k hk => by
    obtain ⟨kv, hkv, rfl⟩ := List.mem_map.1 hk
    exact List.mem_map.2 ⟨kv, h2 kv hkv, rfl⟩)
  simpa using this

/-- One step of the iterator: a pair that wasn't handed out yet, or, if there is none, the end. -/
theorem run_next {w : World} {r b : Nat} {l done : List (Int × Value)} (h : IterIs w r b l done) :
    (∃ kv w1, kv ∈ l ∧ kv ∉ done ∧ (∀ ty, (Instr.next (.pointer (some ⟨r, 0, none⟩)) false ty).run P w = .ok (.tuple #[.bool true, ki kv.1, kv.2]) w1) ∧ Fr [r] w w1 ∧ w1.heap.size = w.heap.size ∧ IterIs w1 r b l (done ++ [kv])) ∨
    ((∀ kv ∈ l, kv ∈ done) ∧ (∀ ty, (Instr.next (.pointer (some ⟨r, 0, none⟩)) false ty).run P w = .ok (.tuple #[.bool false]) w)) := by
  have hrlt := h.lt
  have hmem := iter_done_mem h
  obtain ⟨es, c, seen, h1, h2, h3, h4, h5⟩ := h
  have hne : b ≠ r := fun e => by rw [e] at h1; rw [h1] at h3; cases h3
  -- the filters
  have hold : (es.filter fun e => !seen.contains e.born).filter (fun e => decide (e.born < c)) = es.filter fun e => !seen.contains e.born := by
    apply Array.filter_eq_self.2
    intro e he
    have := (Array.mem_filter.1 he).1
    simpa using h2.clock e (by simpa using this)
  have hnew : (es.filter fun e => !seen.contains e.born).filter (fun e => decide (e.born ≥ c)) = #[] := by
    apply Array.filter_eq_empty_iff.2
    intro e he
    have := (Array.mem_filter.1 he).1
    have := h2.clock e (by simpa using this)
    simp; omega
  have hguard : (!seen.isEmpty && !es.isEmpty && es.all fun x => decide (x.born ≥ c)) = false := by
    cases hes : es.isEmpty with
    | true => simp
    | false =>
      have : es ≠ #[] := by intro e; simp [e] at hes
      obtain ⟨x, hx⟩ := Array.exists_mem_of_ne_empty es this
      have ha : (es.all fun x => decide (x.born ≥ c)) = false := by
        rw [Bool.eq_false_iff]
        intro ht
        have h8 := Array.all_eq_true_iff_forall_mem.1 ht x hx
        have h9 := h2.clock x (by simpa using hx)
        simp only [decide_eq_true_eq] at h8
        omega
      rw [ha]; simp
  generalize hL : (es.filter fun e => !seen.contains e.born) = left at hold hnew
  by_cases hemp : left = #[]
  · right
    refine ⟨?_, ?_⟩
    · intro kv hkv
      obtain ⟨e, he, hk, hv⟩ := ents_mem' h2 hkv
      have hs : e.born ∈ seen.toList := by
        rcases Classical.em (e.born ∈ seen.toList) with h' | h'
        · exact h'
        · have : e ∈ left := by rw [← hL]; simp; exact ⟨by simpa using he, by simpa using h'⟩
          rw [hemp] at this; simp at this
      obtain ⟨kv', hkv', e', he', hb', hk', hv'⟩ := all2_mem h4 _ hs
      have := ents_born_inj h2 he' he hb'
      subst this
      have : kv = kv' := Prod.ext (ki_inj (hk.symm.trans hk')) (hv.symm.trans hv')
      exact this ▸ hkv'
    · subst hemp
      intro ty
      simp only [Instr.next, Sem.run_bind, getObj, Sem.run, h3, Result.andThen_ok, h1, hguard, Bool.false_eq_true, if_false, hL, hold, hnew]
      simp [choose, Question.forced, Sem.run]
  · left
    have hsz : 0 < left.size := Array.size_pos_iff.2 hemp
    -- the choice
    have key : ∃ n w0, n < left.size ∧ (choose (.mapNext left.size)).run P w = .ok n w0 ∧ (w0 = w ∨ w0 = w.drew) := by
      by_cases hf : left.size ≤ 1
      · exact ⟨0, w, hsz, by simp [choose, Sem.run, Question.forced, hf], .inl rfl⟩
      · refine ⟨w.tape w.drawn (.mapNext left.size) % left.size, w.drew, Nat.mod_lt _ hsz, ?_, .inr rfl⟩
        have hff : (Question.mapNext left.size).forced = false := by simp [Question.forced]; omega
        simp only [choose, Sem.run, hff, Bool.false_eq_true, if_false, Question.cut]
        rfl
    obtain ⟨n, w0, hn, hrun, hw0⟩ := key
    have hx : left[n]? = some left[n] := Array.getElem?_eq_getElem hn
    have hin : left[n] ∈ left := Array.getElem_mem hn
    generalize left[n] = x at hx hin
    rw [← hL] at hin
    simp only [Array.mem_filter] at hin
    obtain ⟨hin1, hin2⟩ := hin
    have hin1' : x ∈ es.toList := by simpa using hin1
    obtain ⟨kv, hkv, hk, hv⟩ := ents_mem h2 hin1'
    have hxs : x.born ∉ seen.toList := by simpa using hin2
    have hw0h : w0.heap = w.heap := by rcases hw0 with rfl | rfl <;> rfl
    refine ⟨kv, w0.setBlk r (.mapIter (some b) c (seen.push x.born) c), hkv, ?_, ?_, ?_, by simp [hw0h], ?_⟩
    · intro hd
      obtain ⟨n', hn', e', he', hb', hk', hv'⟩ := all2_mem' h4 kv hd
      apply hxs
      -- e' and x have one key, so they are one
      have hl : es.toList.length = l.length := by simpa using congrArg List.length h2.pairs
      obtain ⟨i, hi, rfl⟩ := List.mem_iff_getElem.1 he'
      obtain ⟨j, hj, hje⟩ := List.mem_iff_getElem.1 hin1'
      have hpi := congrArg (fun x : List (Value × Value) => x[i]?) h2.pairs
      have hpj := congrArg (fun x : List (Value × Value) => x[j]?) h2.pairs
      simp only [List.getElem?_map, List.getElem?_eq_getElem hi, List.getElem?_eq_getElem hj, List.getElem?_eq_getElem (hl ▸ hi), List.getElem?_eq_getElem (hl ▸ hj), Option.map_some, Option.some.injEq, Prod.mk.injEq] at hpi hpj
      have hkk : (l[i]'(hl ▸ hi)).1 = (l[j]'(hl ▸ hj)).1 := ki_inj (hpi.1.symm.trans (hk'.trans (hk.symm.trans (by rw [← hje]; exact hpj.1))))
      have hij : i = j := by
        have := (List.nodup_iff_pairwise_ne.1 h2.nodup)
        rw [List.pairwise_map] at this
        have hp' := List.pairwise_iff_getElem.1 this
        rcases Nat.lt_trichotomy i j with h' | h' | h'
        · exact absurd hkk (hp' i j (hl ▸ hi) (hl ▸ hj) h')
        · exact h'
        · exact absurd hkk.symm (hp' j i (hl ▸ hj) (hl ▸ hi) h')
      subst hij
      rw [← hje, hb']; exact hn'
    · intro ty
      have hlne : left.isEmpty = false := by simpa using hemp
      simp only [Instr.next, Sem.run_bind, getObj, Sem.run, h3, Result.andThen_ok, h1, hguard, Bool.false_eq_true, if_false, hL, hold, hnew, hlne, Array.append_empty, Array.empty_append, Array.size_map, hrun, Array.getElem?_map, hx, Option.map_some, setObj, hw0h]
      simp [World.setBlk, hk, hv, hw0h]
    · have hf : Fr [r] w w0 := by
        rcases hw0 with rfl | rfl
        · exact .refl _ _
        · exact (Fr.refl _ _).drew
      exact hf.setBlk r _ (fun _ => by simp)
    · refine ⟨es, c, seen.push x.born, ?_, h2, ?_, ?_, ?_⟩
      · rw [setBlk_other hne, hw0h]; exact h1
      · exact setBlk_same (by rw [hw0h]; exact hrlt)
      · rw [Array.toList_push]
        exact all2_snoc h4 ⟨x, hin1', rfl, hk, hv⟩
      · rw [Array.toList_push, List.nodup_append]
        exact ⟨h5, by simp, fun a ha b hb => by simp at hb; subst hb; exact fun e => hxs (e ▸ ha)⟩

/-- The entry at which the iterator stands. -/
theorem run_entry {w : World} {r b : Nat} {l done : List (Int × Value)} {kv : Int × Value} (h : IterIs w r b l (done ++ [kv])) :
    (Instr.entry (.pointer (some ⟨r, 0, none⟩))).run P w = .ok (.tuple #[ki kv.1, kv.2]) w := by
  obtain ⟨es, c, seen, h1, h2, h3, h4, h5⟩ := h
  have hlen : seen.toList.length = (done ++ [kv]).length := by
    clear h5 h3
    generalize seen.toList = s at h4
    generalize done ++ [kv] = d at h4
    induction h4 with
    | nil => rfl
    | cons _ _ ih => simp [ih]
  have hne : seen.toList ≠ [] := by intro e; rw [e] at hlen; simp at hlen
  obtain ⟨s0, n, hs⟩ : ∃ s0 n, seen.toList = s0 ++ [n] := ⟨_, _, (List.dropLast_concat_getLast hne).symm⟩
  have hr : ∃ e ∈ es.toList, e.born = n ∧ e.key = ki kv.1 ∧ e.val = kv.2 := by
    rw [hs] at h4
    have hl2 : s0.length = done.length := by rw [hs] at hlen; simpa using hlen
    clear hs hlen hne h5 h3
    induction s0 generalizing done with
    | nil =>
      cases done with
      | nil => cases h4 with | cons h _ => exact h
      | cons _ _ => simp at hl2
    | cons a s0 ih =>
      cases done with
      | nil => simp at hl2
      | cons d done => cases h4 with | cons _ t => exact ih (done := done) t (by simpa using hl2)
  obtain ⟨e, he, hb, hk, hv⟩ := hr
  have hback : seen.back? = some n := by
    rw [← Array.getLast?_toList, hs]; simp
  have hfind : es.find? (fun x => x.born == n) = some e := by
    rw [← Array.find?_toList]
    cases hq : es.toList.find? (fun x => x.born == n) with
    | none =>
      have := List.find?_eq_none.1 hq e he
      simp [hb] at this
    | some e' =>
      have h6 := List.find?_some hq
      have h7 := List.mem_of_find?_eq_some hq
      rw [ents_born_inj h2 h7 he (by simp at h6; omega)]
  simp [Instr.entry, getObj, Sem.run, h3, hback, h1, hfind, hk, hv]
end Go.Nx
