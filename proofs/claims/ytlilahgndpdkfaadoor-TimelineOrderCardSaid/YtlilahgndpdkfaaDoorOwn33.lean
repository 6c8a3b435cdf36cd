/-
  Texts of this claim: TlSort.
-/
import Derived.Test.YtlilahgndpdkfaaDoorOwn2
import Derived.Test.YtlilahgndpdkfaaDoorOwn7
import Derived.Test.YtlilahgndpdkfaaDoorOwn30
set_option linter.all false
/-
  What the closures of the sorts answer, and that the sorts keep their contracts.
-/
namespace Go.Proofs.YtlilahgndpdkfaaDoor
open Go Go.Abs

noncomputable abbrev callO (ov : Over) : CallEnv := (Prg.mk T an ov).call

def cmpI (a b : Int) : Int := if a < b then -1 else if b < a then 1 else 0

theorem o_isNaN {ov : Over} (h : ov 57 = none) (a : Int) (S : Store) : callO ov 57 [i64 a] S = some (.bool false, S) := by
  rw [callO, c57 h]
  unfold F57
  simp

theorem o_Compare {ov : Over} (h1 : ov 57 = none) (h2 : ov 40 = none) (a b : Int) (S : Store) : callO ov 40 [i64 a, i64 b] S = some (i64 (cmpI a b), S) := by
  rw [callO, c40 h2]
  unfold F40 cmpI
  have e1 := o_isNaN h1 a S
  have e2 := o_isNaN h1 b S
  by_cases h : a < b
  · simp [e1, e2, h]
  · by_cases h' : b < a <;> simp [e1, e2, h, h']

theorem o_Or {ov : Over} (h : ov 39 = none) (a b : Int) (t : Tok) (S : Store) : callO ov 39 [.sl [[i64 a], [i64 b]] t] S = some (i64 (if a = 0 then b else a), S) := by
  rw [callO, c39 h]
  unfold F39
  have w1 : IntKind.i64.wrap (0 + 1) = 1 := by decide
  have w2 : IntKind.i64.wrap (1 + 1) = 2 := by decide
  have key : iter (fun s => F39_L1 (Prg.mk T an ov).call S.length (.int .i64 0) (.sl [[i64 a], [i64 b]] t) (i64 2) (s.1.getD 0 .u) s.2) ([i64 0], S) = some (if a = 0 then (if b = 0 then (.exit 0, [.u], S) else (.ret, [i64 b], S)) else (.ret, [i64 a], S)) := by
    rw [iter_eq]
    by_cases ha : a = 0
    · have e1 : F39_L1 (Prg.mk T an ov).call S.length (.int .i64 0) (.sl [[i64 a], [i64 b]] t) (i64 2) (i64 0) S = some (.inl ([i64 1], S)) := by
        simp [F39_L1, indexAV, at?, w1, nextS_same, ha]
      simp only [List.getD_cons_zero, e1, Option.bind_some]
      rw [iter_eq]
      by_cases hb : b = 0
      · have e2 : F39_L1 (Prg.mk T an ov).call S.length (.int .i64 0) (.sl [[i64 a], [i64 b]] t) (i64 2) (i64 1) S = some (.inl ([i64 2], S)) := by
          simp [F39_L1, indexAV, at?, w2, nextS_same, hb]
        have e3 : F39_L1 (Prg.mk T an ov).call S.length (.int .i64 0) (.sl [[i64 a], [i64 b]] t) (i64 2) (i64 2) S = some (.inr (.exit 0, [.u], S)) := by
          simp [F39_L1]
        simp only [List.getD_cons_zero, e2, Option.bind_some]
        rw [iter_eq]
        simp only [List.getD_cons_zero, e3, Option.bind_some]
        rw [if_pos ha, if_pos hb]
      · have e2 : F39_L1 (Prg.mk T an ov).call S.length (.int .i64 0) (.sl [[i64 a], [i64 b]] t) (i64 2) (i64 1) S = some (.inr (.ret, [i64 b], S)) := by
          simp [F39_L1, indexAV, at?, hb]
        simp only [List.getD_cons_zero, e2, Option.bind_some]
        rw [if_pos ha, if_neg hb]
    · have e1 : F39_L1 (Prg.mk T an ov).call S.length (.int .i64 0) (.sl [[i64 a], [i64 b]] t) (i64 2) (i64 0) S = some (.inr (.ret, [i64 a], S)) := by
        simp [F39_L1, indexAV, at?, ha]
      simp only [List.getD_cons_zero, e1, Option.bind_some]
      rw [if_neg ha]
  simp only [i64] at key
  simp only [List.getD_cons_zero, List.getD_cons_succ, lenV, Option.bind_some, i64, List.length_cons, List.length_nil, Nat.zero_add, Nat.reduceAdd, Int.cast_ofNat_Int, key]
  by_cases ha : a = 0
  · by_cases hb : b = 0 <;> simp [ha, hb]
  · simp [ha]

theorem o_Check1 {ov : Over} (h1 : ov 57 = none) (h2 : ov 40 = none) (h3 : ov 39 = none) (h4 : ov 38 = none) (a b c a' b' c' : Int) (S : Store) :
    callO ov 38 [.agg [i64 a, i64 b, i64 c], .agg [i64 a', i64 b', i64 c']] S = some (i64 (if cmpI a a' = 0 then cmpI b b' else cmpI a a'), S) := by
  rw [callO, c38 h4]
  unfold F38
  have e1 := o_Compare h1 h2 a a' S
  have e2 := o_Compare h1 h2 b b' S
  have e3 := o_Or h3 (cmpI a a') (cmpI b b') .full S
  simp [e1, e2, bsliceV, immRows, e3]

theorem o_lines1 {ov : Over} (h1 : ov 57 = none) (h2 : ov 40 = none) (h4 : ov 52 = none) (a b c a' b' c' : Int) (S : Store) :
    callO ov 52 [.agg [i64 a, i64 b, i64 c], .agg [i64 a', i64 b', i64 c']] S = some (i64 (cmpI b b'), S) := by
  rw [callO, c52 h4]
  unfold F52
  have e2 := o_Compare h1 h2 b b' S
  simp [e2]

theorem cmpI_lt {a b : Int} : cmpI a b < 0 ↔ a < b := by unfold cmpI; split <;> (try split) <;> omega
theorem cmpI_eq {a b : Int} : cmpI a b = 0 ↔ a = b := by unfold cmpI; split <;> (try split) <;> omega

/-- No order is read otherwise. -/
noncomputable def prg0 : Prg := Prg.mk T an fun _ => none

theorem over0 (X : Ctx) : OverOK prg0 X := fun _ _ h => by cases h

theorem nrm3 (l : List Int) : nrm (fun n => n) 3 l = [l.getD 0 0, l.getD 1 0, l.getD 2 0] := rfl

theorem over_ok {X : Ctx} (he : Go.Abs.Enters Tryd.prog) (hm : Tryd.prog.follows .mixedOrders = true) (hg : GlobOK T X) : OverOK prg X := by
  intro f g hov args S x S' h
  have hC : ∀ W' : World, GlobOK T ⟨W', memOf W'⟩ → Contract T ⟨W', memOf W'⟩ prg0.call := fun W' hg' => contract_call (Y := prg0) hg' he hm (over0 _)
  change ov f = some g at hov
  unfold ov at hov
  split at hov
  · cases hov
    exact sort_ok (Y := prg) (X := X) (ρ := sort37_ren) sort37 (C := prg0.call) (φ := fun n => n) (sz := 3) (by omega) (ks := [0, 1]) (f := 37) (g := 38) (cf := fun a b => if cmpI (a.getD 0 0) (b.getD 0 0) = 0 then cmpI (a.getD 1 0) (b.getD 1 0) else cmpI (a.getD 0 0) (b.getD 0 0))
      rfl he hg Tryd.isAgg51 Tryd.sizeOf51 ⟨Tryd.f37, Tryd.func37, rfl⟩ hC ⟨Tryd.f38, Tryd.func38, rfl⟩
      (fun a b => ⟨[], by rw [nrm3, nrm3]; exact o_Check1 rfl rfl rfl rfl _ _ _ _ _ _ []⟩)
      (fun a b => by
        rw [nrm3, nrm3]
        simp only [Abs.keyOf, Abs.ltK, List.map_cons, List.map_nil, List.getD_cons_zero, List.getD_cons_succ, Bool.and_false, Bool.or_false]
        by_cases h0 : cmpI (a.getD 0 0) (b.getD 0 0) = 0
        · have := cmpI_eq.1 h0
          rw [if_pos h0]
          simp only [cmpI_lt, this, beq_self_eq_true, Bool.true_and, show ¬ (b.getD 0 0 < b.getD 0 0) by omega, decide_false, Bool.false_or]
        · have h1 : a.getD 0 0 ≠ b.getD 0 0 := fun h => h0 (cmpI_eq.2 h)
          rw [if_neg h0]
          simp only [cmpI_lt, beq_eq_false_iff_ne.2 h1, Bool.false_and, Bool.or_false]) h
  · cases hov
    exact sort_ok (Y := prg) (X := X) (ρ := sort51_ren) sort51 (C := prg0.call) (φ := fun n => n) (sz := 3) (by omega) (ks := [1]) (f := 51) (g := 52) (cf := fun a b => cmpI (a.getD 1 0) (b.getD 1 0))
      rfl he hg Tryd.isAgg80 Tryd.sizeOf80 ⟨Tryd.f51, Tryd.func51, rfl⟩ hC ⟨Tryd.f52, Tryd.func52, rfl⟩
      (fun a b => ⟨[], by rw [nrm3, nrm3]; exact o_lines1 rfl rfl rfl _ _ _ _ _ _ []⟩)
      (fun a b => by
        rw [nrm3, nrm3]
        simp only [Abs.keyOf, Abs.ltK, List.map_cons, List.map_nil, List.getD_cons_zero, List.getD_cons_succ, Bool.and_false, Bool.or_false, cmpI_lt]) h
  · cases hov

end Go.Proofs.YtlilahgndpdkfaaDoor
