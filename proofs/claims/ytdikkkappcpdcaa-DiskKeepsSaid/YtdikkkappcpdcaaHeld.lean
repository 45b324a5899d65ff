/- A region that draws its order: each operation (a read, a call that makes memory) yields one value in every world of a kind S, and leaves the world of that kind: then every order comes to one frame, and to some world of that kind. -/
import Derived.Test.YtdikkkappcpdcaaOps
namespace Go.Nx
open Go Go.RowKit
variable {P : Program} {ops : Array Oper} {md : Region.Mode} {S : World → Prop}

/-- What a run of an operation comes to: the value v, and a world of the kind S. -/
def okAt (P : Program) (S : World → Prop) (v : Value) : Result Next → Prop
  | .ok (.value u) w => u = v ∧ S w
  | .ok .skip w => v = undef ∧ S w
  | .ok (.enter f args) w => Calls P f args w fun e w' => e = .returned v ∧ S w'
  | _ => False

def YH (P : Program) (ops : Array Oper) (S : World → Prop) (o : Oper) (v : Value) (a : Act) : Prop :=
  (Region.wanted o (yielded ops a.tmps) = true ∧ ∀ w, S w → okAt P S v ((execOp a.eval o).run P w)) ∨ (Region.wanted o (yielded ops a.tmps) = false ∧ v = undef)

theorem YH.same {o : Oper} {v : Value} {a a' : Act} (h : YH P ops S o v a) (he : execOp a'.eval o = execOp a.eval o)
    (hw : Region.wanted o (yielded ops a'.tmps) = Region.wanted o (yielded ops a.tmps)) : YH P ops S o v a' := by
  unfold YH at *; rw [he, hw]; exact h

/-- The operations of a list, one behind the other. -/
def wpHeld (P : Program) (ops : Array Oper) (S : World → Prop) (Q : Act → Prop) : List Oper → Act → Prop
  | [], a => Q a
  | o :: rest, a => ∃ v, YH P ops S o v a ∧ wpHeld P ops S Q rest (a.put o.dst v)

/-- All orders of the operations below n. -/
def wpAnyT (P : Program) (md : Region.Mode) (ops : Array Oper) (S : World → Prop) (n : Nat) (L : Array Bool → Act → Prop) : Nat → Array Bool → Act → Prop
  | 0, listed, a => L listed a
  | f + 1, listed, a =>
    Region.ready md ops listed ≠ [] ∧ ∀ i ∈ Region.ready md ops listed, i < n ∧ ∃ oi v, ops[i]? = some oi ∧ YH P ops S oi v a ∧ wpAnyT P md ops S n L f (listed.setIfInBounds i true) (a.put oi.dst v)

theorem wpOp_of_YH {i : Nat} {oi : Oper} {v : Value} {a : Act} {w : World} {K : Act → World → Prop} {Q' : Exit → Act → World → Prop} (hi : ops[i]? = some oi) (hy : YH P ops S oi v a) (hw : S w)
    (h : ∀ w', S w' → K (a.put oi.dst v) w') : wpOp P ops Q' i K a w := by
  unfold wpOp
  simp only [hi]
  rcases hy with ⟨h1, h2⟩ | ⟨h1, rfl⟩
  · rw [if_pos h1]
    left
    have h3 := h2 w hw
    unfold Oper.wp
    generalize (execOp a.eval oi).run P w = r at *
    cases r with
    | halt x w' => exact h3.elim
    | ok n w' =>
      cases n <;> simp only [okAt] at h3 <;> first | exact h3.elim | skip
      case value u => obtain ⟨rfl, h4⟩ := h3; exact h _ h4
      case skip => obtain ⟨rfl, h4⟩ := h3; exact h _ h4
      case enter f args =>
        refine h3.mono ?_
        rintro e w'' ⟨rfl, h4⟩
        exact h _ h4
  · rw [if_neg (by rw [h1]; simp)]
    exact h _ hw

theorem wpAny_of_T {n g : Nat} {L : Array Bool → Act → Prop} {Q' : Exit → Act → World → Prop} (hL : ∀ listed a, L listed a → ∀ w, S w → wpAny P md ops Q' g listed a w) :
    ∀ (f : Nat) (listed : Array Bool) (a : Act), wpAnyT P md ops S n L f listed a → ∀ w, S w → wpAny P md ops Q' (f + g) listed a w
  | 0, listed, a, h, w, hw => by rw [Nat.zero_add]; exact hL _ _ h w hw
  | f + 1, listed, a, h, w, hw => by
    rw [show f + 1 + g = (f + g) + 1 by omega]
    refine ⟨fun h0 => absurd h0 h.1, fun i hi => ?_⟩
    obtain ⟨_, oi, v, h1, h2, h3⟩ := h.2 i hi
    exact wpOp_of_YH h1 h2 hw (fun w' hw' => wpAny_of_T hL f _ _ h3 w' hw')

theorem wpAnyT_first {n i : Nat} {oi : Oper} {v : Value} {L : Array Bool → Act → Prop} {Inv : Array Bool → Prop} (hi : ops[i]? = some oi) (hsel : ∀ (j : Nat) (o : Oper) cs b, ops[j]? = some o → o.op ≠ .select cs b) (hin : i < n)
    (hset : ∀ listed j, Inv listed → j ∈ Region.ready md ops listed → j < n → Inv (listed.setIfInBounds j true))
    (hlt : ∀ listed, Inv listed → listed.getD i true = false → ∀ j ∈ Region.ready md ops listed, j < n)
    (hdone : ∀ listed a, L listed a → ∀ j ∈ Region.ready md ops listed, n ≤ j) :
    ∀ (f : Nat) (listed : Array Bool) (a : Act), Inv listed →
      (∀ j oj, ops[j]? = some oj → j ≠ i → listed.getD j true = false → (∀ e ∈ oj.after, Region.binds md e = true → e.on ≠ i) → oi.apart ops oj = true) →
      i ∈ Region.ready md ops listed → YH P ops S oi v a →
      wpAnyT P md ops S n L f (listed.setIfInBounds i true) (a.put oi.dst v) → wpAnyT P md ops S n L (f + 1) listed a := by
  intro f
  induction f with
  | zero =>
    intro listed a inv _ hr hy H
    have hun := (mem_ready.1 hr).1
    refine ⟨fun h => (by rw [h] at hr; cases hr), fun j hj => ?_⟩
    have hjn := hlt listed inv hun j hj
    refine ⟨hjn, ?_⟩
    by_cases hji : j = i
    · subst hji; exact ⟨oi, v, hi, hy, H⟩
    · have := hdone _ _ H j (ready_mono hj hji); omega
  | succ f ih =>
    intro listed a inv hfree hr hy H
    have hun := (mem_ready.1 hr).1
    refine ⟨fun h => (by rw [h] at hr; cases hr), fun j hj => ?_⟩
    have hjn := hlt listed inv hun j hj
    refine ⟨hjn, ?_⟩
    by_cases hji : j = i
    · subst hji; exact ⟨oi, v, hi, hy, H⟩
    · obtain ⟨_, oj, u, hoj, hyj, hrest⟩ := H.2 j (ready_mono hj hji)
      obtain ⟨hjun, oj', hoj', hall⟩ := mem_ready.1 hj
      have : oj' = oj := Option.some.inj (hoj'.symm.trans hoj)
      subst this
      have hnot : ∀ e ∈ oj'.after, Region.binds md e = true → e.on ≠ i := fun e he hb heq => by
        have h1 := hall e he hb
        rw [heq, getD_both hun] at h1
        cases h1
      obtain ⟨p1, p2, p3⟩ := Oper.apart_spec (hfree j oj' hoj hji hjun hnot)
      have hsi := fun cs b => hsel i oi cs b hi
      have hsj := fun cs b => hsel j oj' cs b hoj
      have hyj' : YH P ops S oj' u a := hyj.same (execOp_put oj' hsj a oi.dst v p1).symm (wanted_put oj' a oi.dst v p1).symm
      have hyi' : YH P ops S oi v (a.put oj'.dst u) := hy.same (execOp_put oi hsi a oj'.dst u p3) (wanted_put oi a oj'.dst u p3)
      refine ⟨oj', u, hoj, hyj', ?_⟩
      have hfree' : ∀ k ok, ops[k]? = some ok → k ≠ i → (listed.setIfInBounds j true).getD k true = false →
          (∀ e ∈ ok.after, Region.binds md e = true → e.on ≠ i) → oi.apart ops ok = true := fun k ok hk hki hunk hno => by
        refine hfree k ok hk hki ?_ hno
        by_cases hjk : j = k
        · subst hjk; exact hjun
        · rw [getD_set_ne true hjk] at hunk; exact hunk
      refine ih _ _ (hset _ _ inv hj hjn) hfree' (ready_mono hr (Ne.symm hji)) hyi' ?_
      rw [Array.setIfInBounds_comm _ _ hji, ← Act.put_comm a v u p2]
      exact hrest

theorem wpAnyT_lex {n g : Nat} {Lq : Act → Prop} {Inv : Array Bool → Prop} (hsel : Region.noSelect ops = true)
    (hset : ∀ listed j, Inv listed → j ∈ Region.ready md ops listed → j < n → Inv (listed.setIfInBounds j true))
    (hlt : ∀ listed i, i < n → Inv listed → listed.getD i true = false → ∀ j ∈ Region.ready md ops listed, j < n) :
    ∀ (l : List Oper) (k : Nat) (listed : Array Bool) (a : Act), (∀ j, j < l.length → l[j]? = ops[k + j]?) → k + l.length = n → Inv listed →
    Region.lexHead md ops g l.length k listed = true → wpHeld P ops S Lq l a →
    wpAnyT P md ops S n (fun listed' a' => Region.seqB md ops g n listed' = true ∧ Lq a') l.length listed a
  | [], k, listed, a, _, hk, _, hB, h => by
    have : k = n := by simpa using hk
    subst this
    exact ⟨by simpa [Region.lexHead] using hB, h⟩
  | o :: l, k, listed, a, hl, hk, inv, hB, h => by
    have h0 : ops[k]? = some o := by simpa using (hl 0 (by simp)).symm
    simp only [List.length_cons, Region.lexHead, Bool.and_eq_true] at hB
    obtain ⟨⟨hr, hf⟩, hB'⟩ := hB
    have hkn : k < n := by simp only [List.length_cons] at hk; omega
    have hr' : k ∈ Region.ready md ops listed := by simpa using hr
    obtain ⟨v, hy, hK⟩ := h
    exact wpAnyT_first h0 (Region.noSelect_spec hsel) hkn hset (fun listed inv hun => hlt listed k hkn inv hun) (fun listed' a' hL => seqB_ready hL.1) l.length listed a inv (Region.free_spec h0 hf) hr' hy
      (wpAnyT_lex hsel hset hlt l (k + 1) _ _ (fun j hj => by have := hl (j + 1) (by simp; omega); simpa [Nat.add_assoc, Nat.add_comm 1 j] using this) (by simp only [List.length_cons] at hk; omega) (hset _ _ inv hr' hkn) hB' hK)

/-- THE LAW, with operations behind n that come last, in their order. -/
theorem wp_region_kin_tail {id : Nat} {Q : Exit → Act → World → Prop} {a : Act} {w : World} {l : List Oper} (S : World → Prop) (n : Nat) (hm : P.follows .mixedOrders = true) (hB : Region.lexTailB .any l.toArray n = true)
    (hS : S w.drew) (h : wpHeld P l.toArray S (fun a' => ∀ w', S w' → wpList P l.toArray Q (l.drop n) a' w') (l.take n) a) : (Code.region id l.toArray true).wp P Q a w := by
  simp only [Region.lexTailB, Bool.and_eq_true, decide_eq_true_eq] at hB
  obtain ⟨⟨⟨⟨hsel, hn⟩, hs⟩, hc⟩, hlex⟩ := hB
  have hn' : n < l.length := by simpa using hn
  have htl : (l.take n).length = n := by simp; omega
  have hdl : (l.drop n).length = l.toArray.size - n := by simp
  have inv0 : HeadInv .any l.toArray n (Array.replicate l.toArray.size false) :=
    ⟨by simp, fun j oj _ hl => (by rw [getD_replicate_false] at hl; cases hl), fun t _ ht => getD_in (by simpa using ht) (getD_replicate_false _ _)⟩
  have H := wpAnyT_lex (P := P) (S := S) (md := .any) (g := l.toArray.size - n) (n := n) (Inv := HeadInv .any l.toArray n) hsel (fun listed j inv hj hjn => inv.set hj hjn)
    (fun listed i hin inv hun j hj => by
      rcases Nat.lt_or_ge j n with h | h
      · exact h
      · exact absurd hj (tail_waits hs hc hn inv _ i rfl hin hun j h))
    (l.take n) 0 (Array.replicate l.toArray.size false) a (fun j hj => by
      have hj' : j < n := by rw [htl] at hj; exact hj
      simp [hj']) (by simpa using htl) inv0 (by rw [htl]; exact hlex) h
  refine wp_region_any hm ?_
  have := wpAny_of_T (Q' := Q) (g := l.toArray.size - n) (fun listed a' hL w' hw' => by
    rw [← hdl]
    exact wpAny_of_seq (l.drop n) n listed a' w' (fun j => by simp) (by rw [hdl]; exact hL.1) (hL.2 w' hw')) _ _ _ H w.drew hS
  rw [htl, show n + (l.toArray.size - n) = l.toArray.size by simp; omega] at this
  exact this

theorem lexHead_of_lexFrom : ∀ (f k : Nat) (listed : Array Bool), Region.lexFrom md ops f k listed = true → Region.lexHead md ops 0 f k listed = true
  | 0, _, _, h => by simpa [Region.lexFrom, Region.lexHead, Region.seqB] using h
  | f + 1, k, listed, h => by
    simp only [Region.lexFrom, Region.lexHead, Bool.and_eq_true] at h ⊢
    exact ⟨h.1, lexHead_of_lexFrom f _ _ h.2⟩

/-- THE LAW. -/
theorem wp_region_kin {id : Nat} {Q : Exit → Act → World → Prop} {a : Act} {w : World} {l : List Oper} (S : World → Prop) (hm : P.follows .mixedOrders = true) (hB : Region.lexB .any l.toArray = true)
    (hS : S w.drew) (h : wpHeld P l.toArray S (fun a' => ∀ w', S w' → Q .normal a' w') l a) : (Code.region id l.toArray true).wp P Q a w := by
  simp only [Region.lexB, Bool.and_eq_true] at hB
  have H := wpAnyT_lex (P := P) (S := S) (md := .any) (g := 0) (n := l.length) (Inv := fun listed => True) hB.1 (fun _ _ _ _ _ => trivial)
    (fun listed i _ _ _ j hj => by
      obtain ⟨_, o, ho, _⟩ := mem_ready.1 hj
      have := (Array.getElem?_eq_some_iff.1 ho).1
      simpa using this)
    l 0 (Array.replicate l.toArray.size false) a (fun j hj => by simp) (by simp) trivial (by
      have := lexHead_of_lexFrom _ _ _ hB.2
      simpa using this) h
  refine wp_region_any hm ?_
  have := wpAny_of_T (Q' := Q) (g := 0) (fun listed a' hL w' hw' => by
    refine ⟨?_, hL.2 w' hw'⟩
    have := hL.1
    simpa [Region.seqB] using this) _ _ _ H w.drew hS
  simpa using this

theorem wpHeld_imp {Q Q' : Act → Prop} (hq : ∀ a, Q a → Q' a) : ∀ (l : List Oper) (a : Act), wpHeld P ops S Q l a → wpHeld P ops S Q' l a
  | [], _, h => hq _ h
  | _ :: l, _, ⟨v, h1, h2⟩ => ⟨v, h1, wpHeld_imp hq l _ h2⟩
theorem wpHeld_nil {Q : Act → Prop} {a : Act} (h : Q a) : wpHeld P ops S Q [] a := h
theorem wpHeld_value {Q : Act → Prop} {a : Act} {o : Oper} {rest : List Oper} {v : Value} (hw : Region.wanted o (yielded ops a.tmps) = true) (hr : ∀ w, S w → (execOp a.eval o).run P w = .ok (.value v) w)
    (h : wpHeld P ops S Q rest (a.put o.dst v)) : wpHeld P ops S Q (o :: rest) a :=
  ⟨v, .inl ⟨hw, fun w hS => by rw [hr w hS]; exact ⟨rfl, hS⟩⟩, h⟩
theorem wpHeld_not {Q : Act → Prop} {a : Act} {o : Oper} {rest : List Oper} (hw : Region.wanted o (yielded ops a.tmps) = false)
    (h : wpHeld P ops S Q rest (a.put o.dst undef)) : wpHeld P ops S Q (o :: rest) a := ⟨undef, .inr ⟨hw, rfl⟩, h⟩

theorem run_call_enter {ρ : Operand → Value} {d : Option Tmp} {t : TypeId} {pos : String} {af : Array Edge} {g : Option (Nat × Bool)} {f : FuncId} {xs : Array Operand} {ts : Array TypeId} {fn : Func} {args : Array Value}
    (hf : P.funcs[f]? = some fn) (hn : (fn.name == "runtime.NumGoroutine") = false) (hb : fn.body.isNone = false) (hx : xs.map ρ = args) (hρ : ρ (.func f) = .func (.func f) #[] #[]) (w : World) :
    (execOp ρ (⟨d, .call { callee := .value (.func f), args := xs, argTypes := ts }, t, pos, af, g⟩ : Oper)).run P w = .ok (.enter f args) w := by
  subst hx
  have hn' : fn.name ≠ "runtime.NumGoroutine" := by simpa using hn
  have hb' : fn.body ≠ none := by intro e; simp [e] at hb
  simp [execOp, resolve, Deferred.ofValue, hρ, invoke, callFunc, program, Sem.run, hf, hn', hb']

theorem wpHeld_call {Q : Act → Prop} {a : Act} {rest : List Oper} {d : Option Tmp} {t : TypeId} {pos : String} {af : Array Edge} {g : Option (Nat × Bool)} {f : FuncId} {xs : Array Operand} {ts : Array TypeId} {fn : Func} {args : Array Value} {v : Value}
    (hc : ∀ w, S w → Calls P f args w fun e w' => e = .returned v ∧ S w') (hf : P.funcs[f]? = some fn) (hn : (fn.name == "runtime.NumGoroutine") = false) (hb : fn.body.isNone = false)
    (hx : xs.toList.map a.eval = args.toList) (hw : Region.wanted (⟨d, .call { callee := .value (.func f), args := xs, argTypes := ts }, t, pos, af, g⟩ : Oper) (yielded ops a.tmps) = true)
    (h : wpHeld P ops S Q rest (a.put d v)) : wpHeld P ops S Q ((⟨d, .call { callee := .value (.func f), args := xs, argTypes := ts }, t, pos, af, g⟩ : Oper) :: rest) a :=
  ⟨v, .inl ⟨hw, fun w hS => by rw [run_call_enter hf hn hb (Array.toList_inj.1 (by simpa using hx)) rfl w]; exact hc w hS⟩, h⟩
theorem wpHeld_load {Q : Act → Prop} {a : Act} {rest : List Oper} {d : Option Tmp} {t : TypeId} {pos : String} {af : Array Edge} {g : Option (Nat × Bool)} {ty : TypeId} {x : Operand} {v u : Value} (hr : ∀ w, S w → (Instr.loadAt ty v).run P w = .ok u w) (hx : a.eval x = v)
    (hw : Region.wanted (⟨d, .load ty x, t, pos, af, g⟩ : Oper) (yielded ops a.tmps) = true) (h : wpHeld P ops S Q rest (a.put d u)) : wpHeld P ops S Q ((⟨d, .load ty x, t, pos, af, g⟩ : Oper) :: rest) a :=
  wpHeld_value hw (fun w hS => exec_load (hr w hS) hx) h
theorem wpHeld_lookup {Q : Act → Prop} {a : Act} {rest : List Oper} {d : Option Tmp} {t : TypeId} {pos : String} {af : Array Edge} {g : Option (Nat × Bool)} {ty : TypeId} {x y : Operand} {m k u : Value} {c : Bool} (hr : ∀ w, S w → (Instr.lookup ty m k c).run P w = .ok u w) (hx : a.eval x = m) (hy : a.eval y = k)
    (hw : Region.wanted (⟨d, .lookup ty x y c, t, pos, af, g⟩ : Oper) (yielded ops a.tmps) = true) (h : wpHeld P ops S Q rest (a.put d u)) : wpHeld P ops S Q ((⟨d, .lookup ty x y c, t, pos, af, g⟩ : Oper) :: rest) a :=
  wpHeld_value hw (fun w hS => exec_lookup (hr w hS) hx hy) h
theorem wpHeld_indexAddr {Q : Act → Prop} {a : Act} {rest : List Oper} {d : Option Tmp} {t : TypeId} {pos : String} {af : Array Edge} {g : Option (Nat × Bool)} {ty : TypeId} {x y : Operand} {v k u : Value} (hr : ∀ w, S w → (Instr.indexAt ty v k).run P w = .ok u w) (hx : a.eval x = v) (hy : a.eval y = k)
    (hw : Region.wanted (⟨d, .indexAddr ty x y, t, pos, af, g⟩ : Oper) (yielded ops a.tmps) = true) (h : wpHeld P ops S Q rest (a.put d u)) : wpHeld P ops S Q ((⟨d, .indexAddr ty x y, t, pos, af, g⟩ : Oper) :: rest) a :=
  wpHeld_value hw (fun w hS => exec_indexAddr (hr w hS) hx hy) h
theorem wpHeld_build0 {Q : Act → Prop} {a : Act} {rest : List Oper} {d : Option Tmp} {t : TypeId} {pos : String} {af : Array Edge} {g : Option (Nat × Bool)} {ty : TypeId} {u : Value} (hr : ∀ w, S w → (Instr.build ty #[]).run P w = .ok u w) 
    (hw : Region.wanted (⟨d, .build ty #[], t, pos, af, g⟩ : Oper) (yielded ops a.tmps) = true) (h : wpHeld P ops S Q rest (a.put d u)) : wpHeld P ops S Q ((⟨d, .build ty #[], t, pos, af, g⟩ : Oper) :: rest) a :=
  wpHeld_value hw (fun w hS => exec_build0 (hr w hS) ) h
theorem wpHeld_slice {Q : Act → Prop} {a : Act} {rest : List Oper} {d : Option Tmp} {t : TypeId} {pos : String} {af : Array Edge} {g : Option (Nat × Bool)} {ty : TypeId} {x : Operand} {lo hi mx : Option Operand} {v u : Value} {l h m : Option Value} (hr : ∀ w, S w → (Instr.sliceAt ty v l h m).run P w = .ok u w) (hx : a.eval x = v) (hlo : lo.map a.eval = l) (hhi : hi.map a.eval = h) (hmx : mx.map a.eval = m)
    (hw : Region.wanted (⟨d, .slice ty x lo hi mx, t, pos, af, g⟩ : Oper) (yielded ops a.tmps) = true) (h : wpHeld P ops S Q rest (a.put d u)) : wpHeld P ops S Q ((⟨d, .slice ty x lo hi mx, t, pos, af, g⟩ : Oper) :: rest) a :=
  wpHeld_value hw (fun w hS => exec_slice (hr w hS) hx hlo hhi hmx) h
end Go.Nx
