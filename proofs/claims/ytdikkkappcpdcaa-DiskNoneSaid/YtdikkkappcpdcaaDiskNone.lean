/- DiskNone: a disk that isn't there is down: proved for every number and every page, without a condition. -/
import Derived.Test.YtdikkkappcpdcaaRows
import Derived.Test.YtdikkkappcpdcaaAwk3
import Derived.Test.YtdikkkappcpdcaaDskNil
import Derived.Test.YtdikkkappcpdcaaOpen
namespace Go.Proofs.Ytdikkkappcpdcaa.diskNone
open Go Go.RowKit Go.Nx Go.ChangeShapes Go.WideShapes Go.ChangeAt Go.Proofs
set_option maxRecDepth 100000
set_option linter.unusedVariables false

theorem own : ownKnob Try.prog.godebug = none := by kernel_rfl
theorem laidOut : laidOutB Try.prog = true := by kernel_rfl

set_option maxHeartbeats 1600000 in
theorem walk (n : Int) (p : Pg) (w : World) : Calls Try.prog 6 #[.int .i64 n, pv p] w fun e w' => e = .returned (.bool true) ∧ Below w.heap.size w w' := by
  have hb1 := Blk.new w 31 (cl p)
  have hF1 : Below w.heap.size w (w.alloc (.cells (cl p).toArray 31)) := (Below.refl _ _).alloc (Nat.le_refl _) _
  have hlt : w.heap.size < (w.alloc (.cells (cl p).toArray 31)).heap.size := by simp
  have hbu := run_build_pg (P := Try.prog) pgTy
  have hpe := fun (x y : Pg) (w : World) => run_equalIn_pg (P := Try.prog) pgTy x y w
  have hb1H := Lib.hid hb1
  have hF1H := Lib.hid hF1
  have hltH := Lib.hid hlt
  have hbuH := Lib.hid hbu
  have hpeH := Lib.hid hpe
  clear hb1 hF1 hlt hbu hpe
  go_enter Try.func6, Try.ntmps6
  go_wp2_with fail
  refine (awake3 _).mono ?_
  rintro e w2 ⟨rfl, hB2⟩
  have hB := hF1H.out.trans (hB2.mono (Nat.le_of_lt hltH.out))
  have hb : Blk w2 w.heap.size 31 (cl p) := (hB2.block _ hltH.out).trans hb1H.out
  clear hB2
  have hBH := Lib.hid hB
  have hbH := Lib.hid hb
  clear hB hb
  go_wp2_with fail
  refine (fuse_nil _ n).mono ?_
  rintro e _ ⟨rfl, rfl⟩
  go_wp2_with fail
  refine (crash_nil _ _).mono ?_
  rintro e _ ⟨rfl, rfl⟩
  go_wp2_with fail
  refine (read_nil _ n).mono ?_
  rintro e w3 ⟨rfl, hF⟩
  have hF3 : Fr [] w2 w3 := ((Fr.refl [] w2).alloc _).trans hF (S := []) (by simp) (by simp)
  have hb3 := hbH.out.keep hF3 (by simp)
  have hB3 := hBH.out.trans (hF3.below (B := w.heap.size) hBH.out.size (by simp))
  have hal := run_alloc_pg (P := Try.prog) pgTy w3
  obtain ⟨w5, hst, hb5, hf5, hs5⟩ := store_box pgTy (Blk.new w3 31 (cl Pg.zero)) Pg.zero
  have hF5 : Fr [] w3 w5 := ((Fr.refl [] w3).alloc zbox).trans hf5 (S := []) (by simp) (by simp)
  have hld := run_load_pg (P := Try.prog) pgTy (hb3.keep hF5 (by simp)).range1
  have hB5 := hB3.trans (hF5.below (B := w.heap.size) hB3.size (by simp))
  clear hF hF3 hb3 hB3 hf5 hs5 hF5
  have halH := Lib.hid hal
  have hstH := Lib.hid hst
  have hldH := Lib.hid hld
  have hb5H := Lib.hid hb5
  have hB5H := Lib.hid hB5
  clear hal hst hld hb5 hB5
  go_wp2_with (first
    | ((with_reducible refine wpList_alloc (halH.out) ?_ ?_); rfl)
    | ((with_reducible refine wpList_store (hstH.out) ?_ ?_ ?_ ?_); rfl; rfl; rfl)
    | ((with_reducible refine wpList_load (hldH.out) ?_ ?_ ?_); rfl; rfl))
  refine (write_nil _ n p).mono ?_
  rintro e w6 ⟨rfl, hF⟩
  have hB6 := hB5H.out.trans (hF.below (B := w.heap.size) hB5H.out.size (by simp))
  have hld6 := run_load_pg (P := Try.prog) pgTy (hb5H.out.keep hF (by simp)).range1
  clear hF
  have hb6 := hbuH.out w6
  have he6 := hpeH.out Pg.zero Pg.zero w6
  rw [beq_self_eq_true] at he6
  have hBH6 := Lib.hid hB6; clear hB6
  have hld6H := Lib.hid hld6; clear hld6
  have hb6H := Lib.hid hb6; clear hb6
  go_wp2_with (first
    | ((with_reducible refine wpList_load (hld6H.out) ?_ ?_ ?_); rfl; rfl)
    | ((with_reducible refine wpList_build0 (hb6H.out) ?_ ?_); rfl))
  refine (flush_nil _).mono ?_
  rintro e _ ⟨rfl, rfl⟩
  go_wp2_with fail
  refine (pages_nil _).mono ?_
  rintro e _ ⟨rfl, rfl⟩
  go_wp2_with fail
  refine (cached_nil _).mono ?_
  rintro e _ ⟨rfl, rfl⟩
  go_wp2_with fail
  refine (down_nil _).mono ?_
  rintro e _ ⟨rfl, rfl⟩
  go_wp2_with fail
  refine (lasts_nil _ n).mono ?_
  rintro e w7 ⟨rfl, hF⟩
  have hB7 := hBH6.out.trans (hF.below (B := w.heap.size) hBH6.out.size (by simp))
  clear hF he6
  have hb7 := hbuH.out w7
  have he7 := hpeH.out Pg.zero Pg.zero w7
  rw [beq_self_eq_true] at he7
  have hB7H := Lib.hid hB7
  have hb7H := Lib.hid hb7
  clear hB7 hb7
  go_wp2_with (first
    | ((with_reducible refine wpList_build0 (hb7H.out) ?_ ?_); rfl))
  go_ret
  exact ⟨rfl, hB7H.out⟩

theorem lifted (os : Os) (started : os.Started) (H : Type) (enc : TypeId × Value → H) :
    ReturnsInHanded {} Try.checked os 6 .any (Rows.diskNoneSpec.pre6 enc Try.prog Try.f6 Rows.diskNoneRow.domain false) (Rows.diskNoneSpec.post enc Try.prog Try.f6 false true false false) := by
  refine returnsInHanded_of_change (C := Try.checked) own started (by kernel_rfl) Try.func6
    (ChangeSpec.witness6 (enc := enc) (C := Try.checked) false ⟨#[], #[.int .i64 0, .agg (List.replicate 64 (.int .u8 0)).toArray], []⟩ 80 (by kernel_rfl) (by kernel_rfl) (by kernel_rfl) (by kernel_rfl)) ?_
  intro W base args ds gs before hval0 hW hcnd _
  have hval : ∀ (j : Nat) t v, Try.f6.params[j]? = some t → args[j]? = some v → Value.okWide Try.prog W .any base t v := hval0
  have hW' := hW
  obtain ⟨p, q, hA0, hV, rfl, hfz, hnd⟩ := hW
  have hA : DataW.TrodAll enc Try.prog W 0 (fun _ => true) true Try.f6.params.toList args.toList ds p := hA0
  rw [Try.params6] at hA hval
  obtain ⟨v0, vs0, d0, ds0, p0, q0, hargs, rfl, rfl, h0, r0⟩ := trodAll_cons hA
  obtain ⟨v1, vs1, d1, ds1, p1, q1, rfl, rfl, rfl, h1, r1⟩ := trodAll_cons r0
  obtain ⟨rfl, rfl, rfl⟩ := trodAll_nil r1
  obtain rfl : args = #[v0, v1] := by cases args; simp_all
  obtain ⟨rfl, rfl⟩ := trodVars_none hV
  have k0 := h0
  have k1 := h1
  have lt0 : ∀ x ∈ p0, x.block < W.heap.size := by obtain ⟨m, hm⟩ := k0; exact DataW.trod_lt m _ _ _ hm
  have lt1 : ∀ x ∈ p1, x.block < W.heap.size := by obtain ⟨m, hm⟩ := k1; exact DataW.trod_lt m _ _ _ hm
  obtain ⟨n, rfl, _, _, w0⟩ := open_int Try.underlying3 (hval 0 3 v0 rfl rfl) h0
  obtain ⟨pg, rfl⟩ := open_pg Try.underlying31 Try.underlying5 (by kernel_rfl) (by kernel_rfl) (hval 1 31 v1 rfl rfl) h1
  clear hA0 hval0
  refine (walk n pg W).mono fun e W' ⟨he, bel⟩ => ?_
  subst he
  exact ⟨_, rfl, _, _, _, [], _, [], hW', trodAll_mk1 (shut_bool Try.underlying4 _), (trodAll_cons_mk (Below.trod laidOut (by kernel_rfl) (of_decide_eq_true (by kernel_rfl)) k0 bel lt0) (trodAll_cons_mk (Below.trod laidOut (by kernel_rfl) (of_decide_eq_true (by kernel_rfl)) k1 bel lt1) trodAll_mk0)), rfl, bel.frame _, fun h => by cases h⟩

theorem over : Rows.diskNoneRow.holds Try.pinned (OpenSpec.ofChange Rows.diskNoneSpec) :=
  OpenClaim.holds_of_wide 6 Try.f6 rfl rfl rfl rfl rfl rfl rfl ⟨rfl, rfl, rfl, rfl, rfl⟩ rfl rfl rfl rfl rfl (by kernel_rfl) Try.func6 (by kernel_rfl)
    (of_decide_eq_true (by kernel_rfl)) (by unfold Func.isWrapper; first | (rw [if_pos (by decide +kernel)]; kernel_rfl) | (rw [if_neg (by decide +kernel)]; exact ⟨rfl, rfl⟩))
    (fun os started H enc _ => lifted os started H enc)
end Go.Proofs.Ytdikkkappcpdcaa.diskNone
namespace Go.Proofs.Ytdikkkappcpdcaa

/-- DiskNone. -/
theorem diskNone_holds : Rows.DiskNoneSaid := diskNone.over
#print axioms diskNone_holds
end Go.Proofs.Ytdikkkappcpdcaa
