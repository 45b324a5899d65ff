/- A region that draws its order and has two effects (two stores): what holds of the world may hang on which of them is done. -/
import Derived.Test.YtdikkkappcpdcaaHeld
namespace Go.Nx
open Go Go.RowKit
variable {P : Program} {ops : Array Oper} {md : Region.Mode} {S : Array Bool → World → Prop}

def YF (P : Program) (ops : Array Oper) (S : Array Bool → World → Prop) (i : Nat) (o : Oper) (v : Value) (a : Act) : Prop :=
  (Region.wanted o (yielded ops a.tmps) = true ∧ ∀ listed w, i < listed.size → listed.getD i true = false → S listed w → okAt P (S (listed.setIfInBounds i true)) v ((execOp a.eval o).run P w)) ∨
  (Region.wanted o (yielded ops a.tmps) = false ∧ v = undef ∧ ∀ listed w, listed.getD i true = false → S listed w → S (listed.setIfInBounds i true) w)

theorem YF.same {i : Nat} {o : Oper} {v : Value} {a a' : Act} (h : YF P ops S i o v a) (he : execOp a'.eval o = execOp a.eval o)
    (hw : Region.wanted o (yielded ops a'.tmps) = Region.wanted o (yielded ops a.tmps)) : YF P ops S i o v a' := by
  unfold YF at *; rw [he, hw]; exact h

/-- The operations of a list, one behind the other. -/
def wpFlag (P : Program) (ops : Array Oper) (S : Array Bool → World → Prop) (Q : Act → Prop) : Nat → List Oper → Act → Prop
  | _, [], a => Q a
  | k, o :: rest, a => ∃ v, YF P ops S k o v a ∧ wpFlag P ops S Q (k + 1) rest (a.put o.dst v)

/-- All orders of the operations below n. -/
def wpAnyF (P : Program) (md : Region.Mode) (ops : Array Oper) (S : Array Bool → World → Prop) (n : Nat) (L : Array Bool → Act → Prop) : Nat → Array Bool → Act → Prop
  | 0, listed, a => L listed a
  | f + 1, listed, a =>
    Region.ready md ops listed ≠ [] ∧ ∀ i ∈ Region.ready md ops listed, i < n ∧ ∃ oi v, ops[i]? = some oi ∧ YF P ops S i oi v a ∧ wpAnyF P md ops S n L f (listed.setIfInBounds i true) (a.put oi.dst v)

theorem wpOp_of_YF {i : Nat} {oi : Oper} {v : Value} {a : Act} {w : World} {K : Act → World → Prop} {Q' : Exit → Act → World → Prop} {listed : Array Bool} (hi : ops[i]? = some oi) (hsz : i < listed.size) (hun : listed.getD i true = false) (hy : YF P ops S i oi v a) (hw : S listed w)
    (h : ∀ w', S (listed.setIfInBounds i true) w' → K (a.put oi.dst v) w') : wpOp P ops Q' i K a w := by
  unfold wpOp
  simp only [hi]
  rcases hy with ⟨h1, h2⟩ | ⟨h1, rfl, h2⟩
  · rw [if_pos h1]
    left
    have h3 := h2 listed w hsz hun hw
    unfold Oper.wp
    generalize (execOp a.eval oi).run P w = r at *
    cases r with
    | halt x w' => exact h3.elim
    | ok n w' =>
      cases n <;> simp only [okAt] at h3 <;> first | exact h3.elim | skip
      case value u => obtain ⟨rfl, h4⟩ := h3; exact h _ h4
      case skip => obtain ⟨rfl, h4⟩ := h3; exact h _ h4
      case enter f args =>
        refine h3.mono ?_
        rintro e w'' ⟨rfl, h4⟩
        exact h _ h4
  · rw [if_neg (by rw [h1]; simp)]
    exact h _ (h2 listed w hun hw)

theorem wpAny_of_F {n g : Nat} {L : Array Bool → Act → Prop} {Q' : Exit → Act → World → Prop} (hL : ∀ listed a, listed.size = ops.size → L listed a → ∀ w, S listed w → wpAny P md ops Q' g listed a w) :
    ∀ (f : Nat) (listed : Array Bool) (a : Act), listed.size = ops.size → wpAnyF P md ops S n L f listed a → ∀ w, S listed w → wpAny P md ops Q' (f + g) listed a w
  | 0, listed, a, hsz, h, w, hw => by rw [Nat.zero_add]; exact hL _ _ hsz h w hw
  | f + 1, listed, a, hsz, h, w, hw => by
    rw [show f + 1 + g = (f + g) + 1 by omega]
    refine ⟨fun h0 => absurd h0 h.1, fun i hi => ?_⟩
    obtain ⟨_, oi, v, h1, h2, h3⟩ := h.2 i hi
    have hlt : i < listed.size := by rw [hsz]; exact (Array.getElem?_eq_some_iff.1 h1).1
    exact wpOp_of_YF h1 hlt (mem_ready.1 hi).1 h2 hw (fun w' hw' => wpAny_of_F hL f _ _ (by simp [hsz]) h3 w' hw')

theorem wpAnyF_first {n i : Nat} {oi : Oper} {v : Value} {L : Array Bool → Act → Prop} {Inv : Array Bool → Prop} (hi : ops[i]? = some oi) (hsel : ∀ (j : Nat) (o : Oper) cs b, ops[j]? = some o → o.op ≠ .select cs b) (hin : i < n)
    (hset : ∀ listed j, Inv listed → j ∈ Region.ready md ops listed → j < n → Inv (listed.setIfInBounds j true))
    (hlt : ∀ listed, Inv listed → listed.getD i true = false → ∀ j ∈ Region.ready md ops listed, j < n)
    (hdone : ∀ listed a, L listed a → ∀ j ∈ Region.ready md ops listed, n ≤ j) :
    ∀ (f : Nat) (listed : Array Bool) (a : Act), Inv listed →
      (∀ j oj, ops[j]? = some oj → j ≠ i → listed.getD j true = false → (∀ e ∈ oj.after, Region.binds md e = true → e.on ≠ i) → oi.apart ops oj = true) →
      i ∈ Region.ready md ops listed → YF P ops S i oi v a →
      wpAnyF P md ops S n L f (listed.setIfInBounds i true) (a.put oi.dst v) → wpAnyF P md ops S n L (f + 1) listed a := by
  intro f
  induction f with
  | zero =>
    intro listed a inv _ hr hy H
    have hun := (mem_ready.1 hr).1
    refine ⟨fun h => (by rw [h] at hr; cases hr), fun j hj => ?_⟩
    have hjn := hlt listed inv hun j hj
    refine ⟨hjn, ?_⟩
    by_cases hji : j = i
    · subst hji; exact ⟨oi, v, hi, hy, H⟩
    · have := hdone _ _ H j (ready_mono hj hji); omega
  | succ f ih =>
    intro listed a inv hfree hr hy H
    have hun := (mem_ready.1 hr).1
    refine ⟨fun h => (by rw [h] at hr; cases hr), fun j hj => ?_⟩
    have hjn := hlt listed inv hun j hj
    refine ⟨hjn, ?_⟩
    by_cases hji : j = i
    · subst hji; exact ⟨oi, v, hi, hy, H⟩
    · obtain ⟨_, oj, u, hoj, hyj, hrest⟩ := H.2 j (ready_mono hj hji)
      obtain ⟨hjun, oj', hoj', hall⟩ := mem_ready.1 hj
      have : oj' = oj := Option.some.inj (hoj'.symm.trans hoj)
      subst this
      have hnot : ∀ e ∈ oj'.after, Region.binds md e = true → e.on ≠ i := fun e he hb heq => by
        have h1 := hall e he hb
        rw [heq, getD_both hun] at h1
        cases h1
      obtain ⟨p1, p2, p3⟩ := Oper.apart_spec (hfree j oj' hoj hji hjun hnot)
      have hsi := fun cs b => hsel i oi cs b hi
      have hsj := fun cs b => hsel j oj' cs b hoj
      have hyj' : YF P ops S j oj' u a := hyj.same (execOp_put oj' hsj a oi.dst v p1).symm (wanted_put oj' a oi.dst v p1).symm
      have hyi' : YF P ops S i oi v (a.put oj'.dst u) := hy.same (execOp_put oi hsi a oj'.dst u p3) (wanted_put oi a oj'.dst u p3)
      refine ⟨oj', u, hoj, hyj', ?_⟩
      have hfree' : ∀ k ok, ops[k]? = some ok → k ≠ i → (listed.setIfInBounds j true).getD k true = false →
          (∀ e ∈ ok.after, Region.binds md e = true → e.on ≠ i) → oi.apart ops ok = true := fun k ok hk hki hunk hno => by
        refine hfree k ok hk hki ?_ hno
        by_cases hjk : j = k
        · subst hjk; exact hjun
        · rw [getD_set_ne true hjk] at hunk; exact hunk
      refine ih _ _ (hset _ _ inv hj hjn) hfree' (ready_mono hr (Ne.symm hji)) hyi' ?_
      rw [Array.setIfInBounds_comm _ _ hji, ← Act.put_comm a v u p2]
      exact hrest

theorem wpAnyF_lex {n g : Nat} {Lq : Act → Prop} {Inv : Array Bool → Prop} (hsel : Region.noSelect ops = true)
    (hset : ∀ listed j, Inv listed → j ∈ Region.ready md ops listed → j < n → Inv (listed.setIfInBounds j true))
    (hlt : ∀ listed i, i < n → Inv listed → listed.getD i true = false → ∀ j ∈ Region.ready md ops listed, j < n) :
    ∀ (l : List Oper) (k : Nat) (listed : Array Bool) (a : Act), (∀ j, j < l.length → l[j]? = ops[k + j]?) → k + l.length = n → Inv listed →
    Region.lexHead md ops g l.length k listed = true → wpFlag P ops S Lq k l a →
    wpAnyF P md ops S n (fun listed' a' => Region.seqB md ops g n listed' = true ∧ Lq a') l.length listed a
  | [], k, listed, a, _, hk, _, hB, h => by
    have : k = n := by simpa using hk
    subst this
    exact ⟨by simpa [Region.lexHead] using hB, h⟩
  | o :: l, k, listed, a, hl, hk, inv, hB, h => by
    have h0 : ops[k]? = some o := by simpa using (hl 0 (by simp)).symm
    simp only [List.length_cons, Region.lexHead, Bool.and_eq_true] at hB
    obtain ⟨⟨hr, hf⟩, hB'⟩ := hB
    have hkn : k < n := by simp only [List.length_cons] at hk; omega
    have hr' : k ∈ Region.ready md ops listed := by simpa using hr
    obtain ⟨v, hy, hK⟩ := h
    exact wpAnyF_first h0 (Region.noSelect_spec hsel) hkn hset (fun listed inv hun => hlt listed k hkn inv hun) (fun listed' a' hL => seqB_ready hL.1) l.length listed a inv (Region.free_spec h0 hf) hr' hy
      (wpAnyF_lex hsel hset hlt l (k + 1) _ _ (fun j hj => by have := hl (j + 1) (by simp; omega); simpa [Nat.add_assoc, Nat.add_comm 1 j] using this) (by simp only [List.length_cons] at hk; omega) (hset _ _ inv hr' hkn) hB' hK)


theorem lexHead_of_lexFrom' : ∀ (f k : Nat) (listed : Array Bool), Region.lexFrom md ops f k listed = true → Region.lexHead md ops 0 f k listed = true
  | 0, _, _, h => by simpa [Region.lexFrom, Region.lexHead, Region.seqB] using h
  | f + 1, k, listed, h => by
    simp only [Region.lexFrom, Region.lexHead, Bool.and_eq_true] at h ⊢
    exact ⟨h.1, lexHead_of_lexFrom' f _ _ h.2⟩

/-- Where nothing may come up any more, all is listed. -/
theorem all_listed {listed : Array Bool} (hsz : listed.size = ops.size) (hacc : ∀ j oj, ops[j]? = some oj → ∀ e ∈ oj.after, Region.binds md e = true → e.on < j) (h : Region.ready md ops listed = []) : ∀ (j : Nat), j < ops.size → listed.getD j false = true := by
  intro j
  induction j using Nat.strongRecOn with
  | _ j ih =>
    intro hj
    cases hl : listed.getD j true with
    | false =>
      have : j ∈ Region.ready md ops listed := by
        rw [mem_ready]
        refine ⟨hl, ops[j], Array.getElem?_eq_getElem hj, fun e he hb => ?_⟩
        have hlt := hacc j _ (Array.getElem?_eq_getElem hj) e he hb
        exact ih e.on hlt (by omega)
      rw [h] at this; cases this
    | true =>
      have hjs : j < listed.size := by omega
      simpa [hjs] using hl

/-- THE LAW: S may say more the more is done. -/
theorem wp_region_flag {id : Nat} {Q : Exit → Act → World → Prop} {a : Act} {w : World} {l : List Oper} (S : Array Bool → World → Prop) (hm : P.follows .mixedOrders = true) (hB : Region.lexB .any l.toArray = true)
    (hacc : (List.range l.length).all (fun j => match l[j]? with | some oj => oj.after.all fun e => !Region.binds .any e || decide (e.on < j) | none => true) = true)
    (hS : S (Array.replicate l.length false) w.drew) (h : wpFlag P l.toArray S (fun a' => ∀ listed w', (∀ j, j < l.length → listed.getD j false = true) → S listed w' → Q .normal a' w') 0 l a) : (Code.region id l.toArray true).wp P Q a w := by
  simp only [Region.lexB, Bool.and_eq_true] at hB
  have H := wpAnyF_lex (P := P) (S := S) (md := .any) (g := 0) (n := l.length) (Inv := fun listed => True) hB.1 (fun _ _ _ _ _ => trivial)
    (fun listed i _ _ _ j hj => by
      obtain ⟨_, o, ho, _⟩ := mem_ready.1 hj
      have := (Array.getElem?_eq_some_iff.1 ho).1
      simpa using this)
    l 0 (Array.replicate l.toArray.size false) a (fun j hj => by simp) (by simp) trivial (by
      have := lexHead_of_lexFrom' _ _ _ hB.2
      simpa using this) h
  refine wp_region_any hm ?_
  have hacc' : ∀ j oj, l.toArray[j]? = some oj → ∀ e ∈ oj.after, Region.binds .any e = true → e.on < j := by
    intro j oj hj e he hb
    have hjl : j < l.length := by
      have := (Array.getElem?_eq_some_iff.1 hj).1
      simpa using this
    have h1 := List.all_eq_true.1 hacc j (List.mem_range.2 hjl)
    have hj' : l[j]? = some oj := by simpa using hj
    rw [hj'] at h1
    have h2 := Array.all_eq_true_iff_forall_mem.1 h1 e he
    rw [hb] at h2
    simpa using h2
  have := wpAny_of_F (Q' := Q) (g := 0) (fun listed a' hsz hL w' hw' => by
    have hr : Region.ready .any l.toArray listed = [] := by simpa [Region.seqB] using hL.1
    exact ⟨hr, hL.2 listed w' (by simpa using all_listed hsz hacc' hr) hw'⟩) _ _ _ (by simp) H w.drew (by simpa using hS)
  simpa using this

/-- Two operations with effects, p and q; all others yield values. -/
def flagS (p q : Nat) (T : Bool → Bool → World → Prop) (listed : Array Bool) (w : World) : Prop := T (listed.getD p false) (listed.getD q false) w

theorem getD_true_false {listed : Array Bool} {i : Nat} (h : listed.getD i true = false) : listed.getD i false = false := getD_both h
theorem getD_set_self {listed : Array Bool} {i : Nat} (h : i < listed.size) : (listed.setIfInBounds i true).getD i false = true := by simp [h]

theorem flagS_set {p q i : Nat} {T : Bool → Bool → World → Prop} {listed : Array Bool} {w : World} (hp : i ≠ p) (hq : i ≠ q) (h : flagS p q T listed w) : flagS p q T (listed.setIfInBounds i true) w := by
  unfold flagS at *
  rw [getD_set_ne false hp, getD_set_ne false hq]; exact h

theorem okAt_mono {S S' : World → Prop} (hS : ∀ w, S w → S' w) {v : Value} {r : Result Next} (h : okAt P S v r) : okAt P S' v r := by
  cases r with
  | halt x w => exact h
  | ok n w =>
    cases n <;> simp only [okAt] at h ⊢ <;> first | exact h | skip
    case value u => exact ⟨h.1, hS _ h.2⟩
    case skip => exact ⟨h.1, hS _ h.2⟩
    case enter f args => exact h.mono fun e w' ⟨h1, h2⟩ => ⟨h1, hS _ h2⟩

section
variable {p q k : Nat} {T : Bool → Bool → World → Prop} {Q : Act → Prop} {a : Act} {o : Oper} {rest : List Oper}
theorem wpFlag_nil (h : Q a) : wpFlag P ops (flagS p q T) Q k [] a := h
/-- An operation that yields a value in every world of the kind. -/
theorem wpFlag_held {v : Value} (hp : k ≠ p) (hq : k ≠ q) (hy : ∀ b c, YH P ops (T b c) o v a) (h : wpFlag P ops (flagS p q T) Q (k + 1) rest (a.put o.dst v)) : wpFlag P ops (flagS p q T) Q k (o :: rest) a := by
  refine ⟨v, ?_, h⟩
  cases hw : Region.wanted o (yielded ops a.tmps) with
  | true =>
    left
    refine ⟨hw, fun listed w _ hun hS => ?_⟩
    rcases hy (listed.getD p false) (listed.getD q false) with ⟨_, h2⟩ | ⟨h1, _⟩
    · exact okAt_mono (fun w' h' => flagS_set hp hq h') (h2 w hS)
    · rw [hw] at h1; cases h1
  | false =>
    right
    rcases hy false false with ⟨h1, _⟩ | ⟨_, h2⟩
    · rw [hw] at h1; cases h1
    · exact ⟨hw, h2, fun listed w hun hS => flagS_set hp hq hS⟩
theorem wpFlag_value {v : Value} (hp : k ≠ p) (hq : k ≠ q) (hw : Region.wanted o (yielded ops a.tmps) = true) (hr : ∀ b c w, T b c w → (execOp a.eval o).run P w = .ok (.value v) w)
    (h : wpFlag P ops (flagS p q T) Q (k + 1) rest (a.put o.dst v)) : wpFlag P ops (flagS p q T) Q k (o :: rest) a :=
  wpFlag_held hp hq (fun b c => .inl ⟨hw, fun w hS => by rw [hr b c w hS]; exact ⟨rfl, hS⟩⟩) h
/-- The first effect. -/
theorem wpFlag_p (hpq : p ≠ q) (hk : k = p) (hw : Region.wanted o (yielded ops a.tmps) = true) (hr : ∀ c w, T false c w → ∃ w', (execOp a.eval o).run P w = .ok .skip w' ∧ T true c w')
    (h : wpFlag P ops (flagS p q T) Q (k + 1) rest (a.put o.dst undef)) : wpFlag P ops (flagS p q T) Q k (o :: rest) a := by
  subst hk
  refine ⟨undef, .inl ⟨hw, fun listed w hlt hun hS => ?_⟩, h⟩
  unfold flagS at hS
  rw [getD_true_false hun] at hS
  obtain ⟨w', h1, h2⟩ := hr _ w hS
  rw [h1]
  refine ⟨rfl, ?_⟩
  unfold flagS
  rw [getD_set_self hlt, getD_set_ne false hpq]
  exact h2
/-- The second effect. -/
theorem wpFlag_q (hpq : p ≠ q) (hk : k = q) (hw : Region.wanted o (yielded ops a.tmps) = true) (hr : ∀ b w, T b false w → ∃ w', (execOp a.eval o).run P w = .ok .skip w' ∧ T b true w')
    (h : wpFlag P ops (flagS p q T) Q (k + 1) rest (a.put o.dst undef)) : wpFlag P ops (flagS p q T) Q k (o :: rest) a := by
  subst hk
  refine ⟨undef, .inl ⟨hw, fun listed w hlt hun hS => ?_⟩, h⟩
  unfold flagS at hS
  rw [getD_true_false hun] at hS
  obtain ⟨w', h1, h2⟩ := hr _ w hS
  rw [h1]
  refine ⟨rfl, ?_⟩
  unfold flagS
  rw [getD_set_self hlt, getD_set_ne false hpq.symm]
  exact h2
theorem wpFlag_load {d : Option Tmp} {t : TypeId} {pos : String} {af : Array Edge} {g : Option (Nat × Bool)} {ty : TypeId} {x : Operand} {v u : Value} (hr : ∀ e f w, T e f w → (Instr.loadAt ty v).run P w = .ok u w) (hp : k ≠ p) (hq : k ≠ q) (hx : a.eval x = v)
    (hw : Region.wanted (⟨d, .load ty x, t, pos, af, g⟩ : Oper) (yielded ops a.tmps) = true) (h : wpFlag P ops (flagS p q T) Q (k + 1) rest (a.put d u)) : wpFlag P ops (flagS p q T) Q k ((⟨d, .load ty x, t, pos, af, g⟩ : Oper) :: rest) a :=
  wpFlag_value hp hq hw (fun b c w hS => exec_load (hr b c w hS) hx) h
theorem wpFlag_lookup {d : Option Tmp} {t : TypeId} {pos : String} {af : Array Edge} {g : Option (Nat × Bool)} {ty : TypeId} {x y : Operand} {m k' u : Value} {c : Bool} (hr : ∀ e f w, T e f w → (Instr.lookup ty m k' c).run P w = .ok u w) (hp : k ≠ p) (hq : k ≠ q) (hx : a.eval x = m) (hy : a.eval y = k')
    (hw : Region.wanted (⟨d, .lookup ty x y c, t, pos, af, g⟩ : Oper) (yielded ops a.tmps) = true) (h : wpFlag P ops (flagS p q T) Q (k + 1) rest (a.put d u)) : wpFlag P ops (flagS p q T) Q k ((⟨d, .lookup ty x y c, t, pos, af, g⟩ : Oper) :: rest) a :=
  wpFlag_value hp hq hw (fun b c w hS => exec_lookup (hr b c w hS) hx hy) h
theorem wpFlag_indexAddr {d : Option Tmp} {t : TypeId} {pos : String} {af : Array Edge} {g : Option (Nat × Bool)} {ty : TypeId} {x y : Operand} {v k' u : Value} (hr : ∀ e f w, T e f w → (Instr.indexAt ty v k').run P w = .ok u w) (hp : k ≠ p) (hq : k ≠ q) (hx : a.eval x = v) (hy : a.eval y = k')
    (hw : Region.wanted (⟨d, .indexAddr ty x y, t, pos, af, g⟩ : Oper) (yielded ops a.tmps) = true) (h : wpFlag P ops (flagS p q T) Q (k + 1) rest (a.put d u)) : wpFlag P ops (flagS p q T) Q k ((⟨d, .indexAddr ty x y, t, pos, af, g⟩ : Oper) :: rest) a :=
  wpFlag_value hp hq hw (fun b c w hS => exec_indexAddr (hr b c w hS) hx hy) h
theorem wpFlag_storep {d : Option Tmp} {t : TypeId} {pos : String} {af : Array Edge} {g : Option (Nat × Bool)} {ty : TypeId} {x y : Operand} {v u : Value} (hr : ∀ c w, T false c w → ∃ w', (Instr.storeAt ty v u).run P w = .ok () w' ∧ T true c w') (hpq : p ≠ q) (hk : k = p) (hx : a.eval x = v) (hy : a.eval y = u)
    (hw : Region.wanted (⟨d, .store ty x y, t, pos, af, g⟩ : Oper) (yielded ops a.tmps) = true) (h : wpFlag P ops (flagS p q T) Q (k + 1) rest (a.put d undef)) : wpFlag P ops (flagS p q T) Q k ((⟨d, .store ty x y, t, pos, af, g⟩ : Oper) :: rest) a :=
  wpFlag_p hpq hk hw (fun c w hS => let ⟨w', h1, h2⟩ := hr c w hS; ⟨w', exec_store h1 hx hy, h2⟩) h
theorem wpFlag_storeq {d : Option Tmp} {t : TypeId} {pos : String} {af : Array Edge} {g : Option (Nat × Bool)} {ty : TypeId} {x y : Operand} {v u : Value} (hr : ∀ c w, T c false w → ∃ w', (Instr.storeAt ty v u).run P w = .ok () w' ∧ T c true w') (hpq : p ≠ q) (hk : k = q) (hx : a.eval x = v) (hy : a.eval y = u)
    (hw : Region.wanted (⟨d, .store ty x y, t, pos, af, g⟩ : Oper) (yielded ops a.tmps) = true) (h : wpFlag P ops (flagS p q T) Q (k + 1) rest (a.put d undef)) : wpFlag P ops (flagS p q T) Q k ((⟨d, .store ty x y, t, pos, af, g⟩ : Oper) :: rest) a :=
  wpFlag_q hpq hk hw (fun c w hS => let ⟨w', h1, h2⟩ := hr c w hS; ⟨w', exec_store h1 hx hy, h2⟩) h
/-- A call that is the first effect. -/
theorem wpFlag_callp {d : Option Tmp} {t : TypeId} {pos : String} {af : Array Edge} {g : Option (Nat × Bool)} {f : FuncId} {xs : Array Operand} {ts : Array TypeId} {fn : Func} {args : Array Value} {v : Value}
    (hc : ∀ c w, T false c w → Calls P f args w fun e w' => e = .returned v ∧ T true c w') (hpq : p ≠ q) (hk : k = p) (hf : P.funcs[f]? = some fn) (hn : (fn.name == "runtime.NumGoroutine") = false) (hb : fn.body.isNone = false)
    (hx : xs.toList.map a.eval = args.toList) (hw : Region.wanted (⟨d, .call { callee := .value (.func f), args := xs, argTypes := ts }, t, pos, af, g⟩ : Oper) (yielded ops a.tmps) = true)
    (h : wpFlag P ops (flagS p q T) Q (k + 1) rest (a.put d v)) : wpFlag P ops (flagS p q T) Q k ((⟨d, .call { callee := .value (.func f), args := xs, argTypes := ts }, t, pos, af, g⟩ : Oper) :: rest) a := by
  subst hk
  refine ⟨v, .inl ⟨hw, fun listed w hlt hun hS => ?_⟩, h⟩
  unfold flagS at hS
  rw [getD_true_false hun] at hS
  rw [run_call_enter hf hn hb (Array.toList_inj.1 (by simpa using hx)) rfl w]
  refine (hc _ w hS).mono fun e w' ⟨h1, h2⟩ => ⟨h1, ?_⟩
  unfold flagS
  rw [getD_set_self hlt, getD_set_ne false hpq]
  exact h2
/-- A call that is the second effect. -/
theorem wpFlag_callq {d : Option Tmp} {t : TypeId} {pos : String} {af : Array Edge} {g : Option (Nat × Bool)} {f : FuncId} {xs : Array Operand} {ts : Array TypeId} {fn : Func} {args : Array Value} {v : Value}
    (hc : ∀ b w, T b false w → Calls P f args w fun e w' => e = .returned v ∧ T b true w') (hpq : p ≠ q) (hk : k = q) (hf : P.funcs[f]? = some fn) (hn : (fn.name == "runtime.NumGoroutine") = false) (hb : fn.body.isNone = false)
    (hx : xs.toList.map a.eval = args.toList) (hw : Region.wanted (⟨d, .call { callee := .value (.func f), args := xs, argTypes := ts }, t, pos, af, g⟩ : Oper) (yielded ops a.tmps) = true)
    (h : wpFlag P ops (flagS p q T) Q (k + 1) rest (a.put d v)) : wpFlag P ops (flagS p q T) Q k ((⟨d, .call { callee := .value (.func f), args := xs, argTypes := ts }, t, pos, af, g⟩ : Oper) :: rest) a := by
  subst hk
  refine ⟨v, .inl ⟨hw, fun listed w hlt hun hS => ?_⟩, h⟩
  unfold flagS at hS
  rw [getD_true_false hun] at hS
  rw [run_call_enter hf hn hb (Array.toList_inj.1 (by simpa using hx)) rfl w]
  refine (hc _ w hS).mono fun e w' ⟨h1, h2⟩ => ⟨h1, ?_⟩
  unfold flagS
  rw [getD_set_self hlt, getD_set_ne false hpq.symm]
  exact h2
end
end Go.Nx
