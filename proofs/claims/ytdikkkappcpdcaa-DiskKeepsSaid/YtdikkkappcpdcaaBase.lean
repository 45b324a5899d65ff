/- General laws, of no program: what stays when a call writes only some blocks; pages of 64 bytes in memory; maps with int keys. -/
import Derived.WalkKit
import Derived.WalkLawsBesides
import Derived.Deep.MidRow
namespace Go.Nx
open Go Go.RowKit

/-- From w to w' only the blocks of S (and new ones) have turned. -/
structure Fr (S : List Nat) (w w' : World) : Prop where
  os : w'.os = w.os
  tape : w'.tape = w.tape
  output : w'.output = w.output
  size : w.heap.size ≤ w'.heap.size
  block : ∀ k, k < w.heap.size → k ∉ S → w'.heap[k]? = w.heap[k]?

theorem Fr.refl (S : List Nat) (w : World) : Fr S w w := ⟨rfl, rfl, rfl, Nat.le_refl _, fun _ _ _ => rfl⟩

theorem Fr.trans {S S₁ S₂ : List Nat} {a b c : World} (h : Fr S₁ a b) (k : Fr S₂ b c) (h₁ : ∀ x ∈ S₁, x < a.heap.size → x ∈ S) (h₂ : ∀ x ∈ S₂, x < a.heap.size → x ∈ S) : Fr S a c :=
  ⟨k.os.trans h.os, k.tape.trans h.tape, k.output.trans h.output, Nat.le_trans h.size k.size, fun i hi hn =>
    (k.block i (Nat.lt_of_lt_of_le hi h.size) (fun hx => hn (h₂ i hx hi))).trans (h.block i hi (fun hx => hn (h₁ i hx hi)))⟩

theorem Fr.mono {S S' : List Nat} {a b : World} (h : Fr S a b) (hs : ∀ x ∈ S, x ∈ S') : Fr S' a b :=
  ⟨h.os, h.tape, h.output, h.size, fun i hi hn => h.block i hi (fun hx => hn (hs i hx))⟩

theorem Fr.below {S : List Nat} {a b : World} {B : Nat} (h : Fr S a b) (hB : B ≤ a.heap.size) (hs : ∀ x ∈ S, B ≤ x) : Below B a b :=
  ⟨h.os, h.tape, h.output, h.size, fun k hk => h.block k (by omega) (fun hx => by have := hs k hx; omega)⟩

theorem Fr.of_below {a b : World} (S : List Nat) (h : Below a.heap.size a b) : Fr S a b :=
  ⟨h.os, h.tape, h.output, h.size, fun k hk _ => h.block k hk⟩

theorem Fr.drew {S : List Nat} {a w : World} (h : Fr S a w) : Fr S a w.drew := ⟨h.os, h.tape, h.output, h.size, h.block⟩

theorem Fr.alloc {S : List Nat} {a w : World} (h : Fr S a w) (o : Obj) : Fr S a (w.alloc o) :=
  ⟨h.os, h.tape, h.output, by have := h.size; simp; omega, fun k hk hn => (Below.heap_alloc w o k (by have := h.size; omega)).trans (h.block k hk hn)⟩

theorem Fr.setCell {S : List Nat} {a w : World} (h : Fr S a w) (p : Addr) (u : Value) (hp : p.block < a.heap.size → p.block ∈ S) : Fr S a (w.setCell p u) :=
  ⟨h.os, h.tape, h.output, by have := h.size; simp; omega, fun k hk hn => by
    rw [Below.heap_setCell w p u k (fun e => hn (e ▸ hp (e ▸ hk)))]; exact h.block k hk hn⟩

/-- The world with another object in block b. -/
def _root_.Go.World.setBlk (w : World) (b : Nat) (o : Obj) : World := { w with heap := w.heap.setIfInBounds b o }

@[simp] theorem size_setBlk (w : World) (b : Nat) (o : Obj) : (w.setBlk b o).heap.size = w.heap.size := by simp [World.setBlk]
theorem setBlk_same {w : World} {b : Nat} {o : Obj} (h : b < w.heap.size) : (w.setBlk b o).heap[b]? = some o := by simp [World.setBlk, h]
theorem setBlk_other {w : World} {b k : Nat} {o : Obj} (h : k ≠ b) : (w.setBlk b o).heap[k]? = w.heap[k]? := by
  simp [World.setBlk, h.symm]
theorem lt_of_blk {w : World} {b : Nat} {o : Obj} (h : w.heap[b]? = some o) : b < w.heap.size := by
  rcases Nat.lt_or_ge b w.heap.size with h' | h'
  · exact h'
  · simp [Array.getElem?_eq_none h'] at h

theorem Fr.setBlk {S : List Nat} {a w : World} (h : Fr S a w) (b : Nat) (o : Obj) (hp : b < a.heap.size → b ∈ S) : Fr S a (w.setBlk b o) :=
  ⟨h.os, h.tape, h.output, by have := h.size; simp; omega, fun k hk hn => by
    rw [setBlk_other (show k ≠ b from fun e => hn (by rw [e] at hk ⊢; exact hp hk))]; exact h.block k hk hn⟩

theorem Fr.cell {S : List Nat} {a b : World} (h : Fr S a b) {p : Addr} (hp : p.block < a.heap.size) (hn : p.block ∉ S) : b.cell? p = a.cell? p := World.cell?_of_block (w := a) (h.block p.block hp hn)
theorem Fr.frozen {S : List Nat} {a b : World} (h : Fr S a b) {p : Addr} (hp : p.block < a.heap.size) (hn : p.block ∉ S) : b.frozen? p = a.frozen? p := World.frozen?_of_block (w := a) (h.block p.block hp hn)

/-- Block b is a row of the cells cs of type t, none frozen. -/
def Blk (w : World) (b : Nat) (t : TypeId) (cs : List Value) : Prop := w.heap[b]? = some (.cells cs.toArray t (0, 0))

theorem Blk.lt {w : World} {b : Nat} {t : TypeId} {cs : List Value} (h : Blk w b t cs) : b < w.heap.size := lt_of_blk h
theorem Blk.cell {w : World} {b : Nat} {t : TypeId} {cs : List Value} (h : Blk w b t cs) (j : Nat) : w.cell? ⟨b, j, none⟩ = cs[j]? := by
  have := cell_of_row w b j cs.toArray t (0, 0) h
  simpa using this
theorem Blk.frozen {w : World} {b : Nat} {t : TypeId} {cs : List Value} (h : Blk w b t cs) (j : Nat) : w.frozen? ⟨b, j, none⟩ = false := frozen_of_row w b j cs.toArray t h
theorem Blk.keep {S : List Nat} {w w' : World} {b : Nat} {t : TypeId} {cs : List Value} (h : Blk w b t cs) (hf : Fr S w w') (hb : b ∉ S) : Blk w' b t cs := (hf.block b h.lt hb).trans h
theorem Blk.alloc {w : World} {b : Nat} {t : TypeId} {cs : List Value} (h : Blk w b t cs) (o : Obj) : Blk (w.alloc o) b t cs := (Below.heap_alloc w o b h.lt).trans h
theorem Blk.drew {w : World} {b : Nat} {t : TypeId} {cs : List Value} (h : Blk w b t cs) : Blk w.drew b t cs := h
theorem Blk.new (w : World) (t : TypeId) (cs : List Value) : Blk (w.alloc (.cells cs.toArray t)) w.heap.size t cs := heap_alloc_new w _
theorem Blk.setCell_same {w : World} {b : Nat} {t : TypeId} {cs : List Value} (h : Blk w b t cs) (i : Nat) (v : Value) : Blk (w.setCell ⟨b, i, none⟩ v) b t (cs.set i v) := by
  have := heap_setCell_same w b i cs.toArray t v h
  simpa [Blk] using this
theorem Blk.setCell_other {w : World} {b : Nat} {t : TypeId} {cs : List Value} (h : Blk w b t cs) {p : Addr} (hp : b ≠ p.block) (v : Value) : Blk (w.setCell p v) b t cs :=
  (heap_setCell_other w p b v hp).trans h
theorem Blk.setBlk_other {w : World} {b : Nat} {t : TypeId} {cs : List Value} (h : Blk w b t cs) {k : Nat} (hp : b ≠ k) (o : Obj) : Blk (w.setBlk k o) b t cs :=
  (Nx.setBlk_other hp).trans h

/-- cs with vs written over it from o on. -/
def over (cs : List Value) : Nat → List Value → List Value
  | _, [] => cs
  | o, v :: r => over (cs.set o v) (o + 1) r

theorem Blk.setCells {t : TypeId} {b : Nat} : ∀ (vs : List Value) (o : Nat) (w : World) (cs : List Value), Blk w b t cs → Blk (w.setCells b o vs) b t (over cs o vs)
  | [], _, _, _, h => h
  | v :: r, o, w, cs, h => Blk.setCells r (o + 1) _ _ (h.setCell_same o v)
theorem setCells_other (b : Nat) : ∀ (vs : List Value) (o : Nat) (w : World) (k : Nat), k ≠ b → (w.setCells b o vs).heap[k]? = w.heap[k]?
  | [], _, _, _, _ => rfl
  | v :: r, o, w, k, h => by rw [World.setCells, setCells_other b r (o + 1) _ k h, heap_setCell_other w _ k v h]
@[simp] theorem size_setCells (b : Nat) : ∀ (vs : List Value) (o : Nat) (w : World), (w.setCells b o vs).heap.size = w.heap.size
  | [], _, _ => rfl
  | v :: r, o, w => by rw [World.setCells, size_setCells b r (o + 1)]; simp
theorem Fr.setCells {S : List Nat} {a : World} (b : Nat) : ∀ (vs : List Value) (o : Nat) (w : World), Fr S a w → (b < a.heap.size → b ∈ S) → Fr S a (w.setCells b o vs)
  | [], _, _, h, _ => h
  | v :: r, o, w, h, hp => Fr.setCells b r (o + 1) _ (h.setCell ⟨b, o, none⟩ v hp) hp

theorem over_length : ∀ (vs : List Value) (o : Nat) (cs : List Value), (over cs o vs).length = cs.length
  | [], _, _ => rfl
  | v :: r, o, cs => by rw [over, over_length r]; simp
theorem over_eq : ∀ (vs : List Value) (o : Nat) (cs : List Value), o + vs.length ≤ cs.length → over cs o vs = cs.take o ++ vs ++ cs.drop (o + vs.length)
  | [], o, cs, h => by simp [over]
  | v :: r, o, cs, h => by
    simp only [List.length_cons] at h
    rw [over, over_eq r (o + 1) _ (by simp; omega)]
    have e1 : (cs.set o v).take (o + 1) = cs.take o ++ [v] := by
      rw [List.take_succ_eq_append_getElem (by simp; omega)]
      simp [List.take_set_of_le]
    rw [e1, List.drop_set_of_lt (by omega)]
    simp [Nat.add_assoc, Nat.add_comm 1]
theorem over_all (cs vs : List Value) (h : vs.length = cs.length) : over cs 0 vs = vs := by
  rw [over_eq vs 0 cs (by omega)]; simp [h]

/-! ### pages -/
/-- A page: 64 bytes. -/
abbrev Pg := Vector UInt8 64
def bv (c : UInt8) : Value := .int .u8 c.toNat
/-- A page's cells. -/
def cl (p : Pg) : List Value := p.toList.map bv
theorem cl_length (p : Pg) : (cl p).length = 64 := by simp [cl]
theorem cl_get (p : Pg) (j : Nat) (h : j < 64) : (cl p)[j]? = some (bv p[j]) := by simp [cl, h]
theorem bv_inj {a b : UInt8} (h : bv a = bv b) : a = b := by
  unfold bv at h
  have : (a.toNat : Int) = b.toNat := by injection h
  exact UInt8.toNat_inj.1 (by omega)
theorem cl_inj {p q : Pg} (h : cl p = cl q) : p = q := by
  have : p.toList = q.toList := by
    unfold cl at h
    exact (List.map_inj_right (fun a b => bv_inj)).1 h
  exact Vector.toList_inj.1 this
theorem cl_one (p : Pg) : ∀ v ∈ cl p, v.oneCell' = true := by
  intro v hv
  simp only [cl, List.mem_map] at hv
  obtain ⟨c, _, rfl⟩ := hv
  rfl
/-- The cells of pages, one behind the other. -/
def flat (l : List Pg) : List Value := l.flatMap cl
theorem flat_length (l : List Pg) : (flat l).length = l.length * 64 := by
  induction l with
  | nil => rfl
  | cons p l ih => simp only [flat, List.flatMap_cons, List.length_append, cl_length, List.length_cons] at *; omega
theorem flat_cons (p : Pg) (l : List Pg) : flat (p :: l) = cl p ++ flat l := rfl
theorem flat_append (a b : List Pg) : flat (a ++ b) = flat a ++ flat b := by simp [flat]
theorem flat_drop (l : List Pg) (i : Nat) : (flat l).drop (i * 64) = flat (l.drop i) := by
  induction l generalizing i with
  | nil => simp [flat]
  | cons p l ih =>
    cases i with
    | zero => simp
    | succ i =>
      rw [flat_cons, List.drop_append, List.drop_eq_nil_of_le (by rw [cl_length]; omega), List.nil_append, List.drop_succ_cons, ← ih, cl_length]
      congr 1; omega
theorem flat_take (l : List Pg) (i : Nat) : (flat l).take (i * 64) = flat (l.take i) := by
  induction l generalizing i with
  | nil => simp [flat]
  | cons p l ih =>
    cases i with
    | zero => simp [flat]
    | succ i =>
      rw [flat_cons, List.take_append, List.take_of_length_le (by rw [cl_length]; omega), List.take_succ_cons, flat_cons, ← ih, cl_length]
      congr 2; omega
theorem flat_get (l : List Pg) (i j : Nat) (hi : i < l.length) (hj : j < 64) : (flat l)[i * 64 + j]? = (cl l[i])[j]? := by
  have h := congrArg (fun x : List Value => x[j]?) (flat_drop l i)
  simp only [List.getElem?_drop] at h
  rw [h, List.drop_eq_getElem_cons hi, flat_cons, List.getElem?_append_left (by rw [cl_length]; exact hj)]
theorem over_flat (l : List Pg) (i : Nat) (p : Pg) (hi : i < l.length) : over (flat l) (i * 64) (cl p) = flat (l.set i p) := by
  rw [over_eq _ _ _ (by rw [flat_length, cl_length]; omega), flat_take, cl_length, show i * 64 + 64 = (i + 1) * 64 by omega, flat_drop,
    List.set_eq_take_append_cons_drop, if_pos hi, flat_append, flat_cons, List.append_assoc]
/-- p's first k bytes out of q. -/
def Pg.mix (q p : Pg) (k : Nat) : Pg := Vector.ofFn fun i => if i.1 < k then q[i] else p[i]
theorem cl_mix (q p : Pg) (k : Nat) (hk : k ≤ 64) : cl (Pg.mix q p k) = (cl q).take k ++ (cl p).drop k := by
  apply List.ext_getElem?
  intro j
  by_cases hj : j < 64
  · rw [cl_get _ _ hj]
    by_cases hjk : j < k
    · rw [List.getElem?_append_left (by simp [cl_length]; omega), List.getElem?_take, if_pos hjk, cl_get _ _ hj]
      simp [Pg.mix, hjk]
    · rw [List.getElem?_append_right (by simp [cl_length]; omega), List.getElem?_drop, List.length_take, cl_length, Nat.min_eq_left hk, show k + (j - k) = j by omega, cl_get _ _ hj]
      simp [Pg.mix, hjk]
  · rw [List.getElem?_eq_none (by rw [cl_length]; omega), List.getElem?_eq_none (by simp [cl_length]; omega)]
theorem over_flat_mix (l : List Pg) (i : Nat) (p : Pg) (k : Nat) (hi : i < l.length) (hk : k ≤ 64) :
    over (flat l) (i * 64) ((cl p).take k) = flat (l.set i (Pg.mix p l[i] k)) := by
  have hlen : ((cl p).take k).length = k := by simp [cl_length]; omega
  rw [over_eq _ _ _ (by rw [flat_length, hlen]; omega), flat_take, hlen, List.set_eq_take_append_cons_drop, if_pos hi, flat_append, flat_cons, cl_mix _ _ _ hk, List.append_assoc, List.append_assoc]
  congr 2
  have h1 : (flat l).drop (i * 64 + k) = ((flat l).drop (i * 64)).drop k := by rw [List.drop_drop]
  rw [h1, flat_drop, List.drop_eq_getElem_cons hi, flat_cons, List.drop_append, cl_length]
  simp [show k - 64 = 0 by omega]
/-- The page of zeros. -/
def Pg.zero : Pg := Vector.replicate 64 0
theorem cl_zero : cl Pg.zero = List.replicate 64 (.int .u8 0) := by simp [cl, Pg.zero, bv]
theorem flat_zero (n : Nat) : flat (List.replicate n Pg.zero) = List.replicate (n * 64) (.int .u8 0) := by
  induction n with
  | zero => rfl
  | succ n ih => rw [List.replicate_succ, flat_cons, ih, cl_zero, List.replicate_append_replicate]; congr 1; omega

theorem Blk.range {w : World} {b : Nat} {t : TypeId} {l : List Pg} (h : Blk w b t (flat l)) (i : Nat) (hi : i < l.length) : w.rangeAt b (i * 64) (cl l[i]) := by
  intro j v hv
  have hj : j < 64 := by
    rcases Nat.lt_or_ge j 64 with h' | h'
    · exact h'
    · rw [List.getElem?_eq_none (by rw [cl_length]; exact h')] at hv; cases hv
  rw [h.cell, flat_get l i j hi hj, hv]
theorem Blk.there {w : World} {b : Nat} {t : TypeId} {cs : List Value} (h : Blk w b t cs) (o n : Nat) (hn : o + n ≤ cs.length) : w.there b o n := by
  intro j hj
  refine ⟨?_, h.frozen _⟩
  rw [h.cell]
  simp; omega
theorem Blk.range1 {w : World} {b : Nat} {t : TypeId} {cs : List Value} (h : Blk w b t cs) : w.rangeAt b 0 cs := by
  intro j v hv
  rw [h.cell, Nat.zero_add, hv]
end Go.Nx
