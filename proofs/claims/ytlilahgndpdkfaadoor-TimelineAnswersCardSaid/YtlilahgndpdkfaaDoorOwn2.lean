/-
  Texts of this claim: AbsFunc, AbsFn, AbsBridge, AbsSimp, AbsLib, PureArgs.
-/
import Derived.ProofKit
import Derived.OpenShut
import Derived.ChangeSame
import Derived.Carry
import Derived.LaidLaws
import Derived.Test.YtlilahgndpdkfaaDoorOwn0
import Derived.Test.YtlilahgndpdkfaaDoorOwn1
set_option linter.all false
/-
  Functions: their results, what is handed back, and calls to whatever depth.
-/
namespace Go.Abs
open Go Go.RowKit

section
variable {T : Tabs} {an : Ann} {X : Ctx} {G : Gst} {b N : Nat} {e : Env} {S : Store} {a : Act} {w : World} {C : CallEnv}

/-- One result. -/
theorem res_ok (hr : Rel X G b N e S a w) {r : ResultVar} {s : SRes} {x : AV} (h : resC T r = some s) (hv : resV e S s = some x) :
    ∃ v, (match r with | .tmp t => pure (a.tmps.getD t undef) | .cell ad t => do loadVar t (← asAddr (a.tmps.getD ad undef)) : Sem Value).run T.P w = .ok v w ∧ V2 G S v x ∧ below S.length x = true := by
  cases r with
  | tmp t =>
    simp only [resC, Option.some.injEq] at h
    subst h
    simp only [resV, Option.some.injEq] at hv
    subst hv
    exact ⟨_, rfl, hr.env t, hr.bel t⟩
  | cell ad t =>
    simp only [resC, Option.bind_eq_some_iff] at h
    obtain ⟨n, h1, h2⟩ := h
    have hs : s = .cell ad (n.getD 0) ∧ n ≠ some 0 := by
      cases n with
      | none => cases h2; exact ⟨rfl, by simp⟩
      | some k => cases k with
        | zero => cases h2
        | succ k => cases h2; exact ⟨rfl, by simp⟩
    obtain ⟨rfl, hn0⟩ := hs
    simp only [resV] at hv
    have hshape : (bif Nat.beq (n.getD 0) 0 then none else some (n.getD 0)) = n := by
      cases n with
      | none => rfl
      | some k => cases k with
        | zero => exact absurd rfl hn0
        | succ k => rfl
    rw [hshape] at hv
    obtain ⟨v, e1, e2⟩ := op_load hr.sat h1 (hr.env ad) hv
    refine ⟨v, ?_, e2, loadV_below hr.sat hr.hb (hr.env ad) hv⟩
    have hp : ∃ p, a.tmps.getD ad undef = .pointer (some p) := by
      have hv' := hr.env ad
      cases hc : e ad <;> rw [show e.get ad = e ad from rfl, hc] at hv <;> simp only [loadV, reduceCtorEq] at hv
      · rw [hc] at hv'; obtain ⟨blk, s, h, _⟩ := hv'.ip_inv; exact ⟨_, h⟩
      · rw [hc] at hv'; exact ⟨_, hv'.ptr_inv⟩
    obtain ⟨p, hp⟩ := hp
    rw [hp] at e1
    have e1' : (loadVar t p).run T.P w = .ok v w := by simpa [Instr.loadAt, Instr.sureAddr] using e1
    show ((do loadVar t (← asAddr (a.tmps.getD ad undef)) : Sem Value)).run T.P w = .ok v w
    rw [hp]
    simpa [asAddr] using e1'


theorem resVs_ok (hr : Rel X G b N e S a w) : ∀ {rs : List ResultVar} {ss : List SRes} {xs : List AV}, resCs T rs = some ss → resVs e S ss = some xs →
    ∃ vs : List Value, (rs.mapM fun r => (match r with | .tmp t => pure (a.tmps.getD t undef) | .cell ad t => do loadVar t (← asAddr (a.tmps.getD ad undef)) : Sem Value)).run T.P w = .ok vs w ∧ vs.length = xs.length ∧ (∀ j (h : j < xs.length), V2 G S (vs.getD j undef) (xs[j])) ∧ ∀ j (h : j < xs.length), below S.length (xs[j]) = true
  | [], ss, xs, h1, h2 => by
    simp only [resCs, Option.some.injEq] at h1
    subst h1
    simp only [resVs, Option.some.injEq] at h2
    subst h2
    exact ⟨[], rfl, rfl, fun j hj => by simp at hj, fun j hj => by simp at hj⟩
  | r :: rs, ss, xs, h1, h2 => by
    simp only [resCs, Option.bind_eq_some_iff] at h1
    obtain ⟨s, k1, ss', k2, k3⟩ := h1
    cases k3
    simp only [resVs, Option.bind_eq_some_iff] at h2
    obtain ⟨x, q1, xs', q2, q3⟩ := h2
    cases q3
    obtain ⟨v, v1, v2, v3⟩ := res_ok hr k1 q1
    obtain ⟨vs, w1, w2, w3, w4⟩ := resVs_ok hr k2 q2
    refine ⟨v :: vs, ?_, by simp [w2], fun j hj => ?_, fun j hj => ?_⟩
    · rw [List.mapM_cons]
      simp only [Sem.run_bind, v1, Result.andThen_ok, w1, Sem.run_pure]
    · cases j with
      | zero => exact v2
      | succ j => exact w3 j (by simpa using hj)
    · cases j with
      | zero => exact v3
      | succ j => exact w4 j (by simpa using hj)


/-- Cells that become known: those of entries behind n alone, as_ they are. -/
structure Knows (G : Gst) (S : Store) (w : World) (n : Nat) (M' : Mem) : Prop where
  le : MLe G.M M'
  diff : ∀ c o, M' c o ≠ G.M c o → (∃ i, n ≤ i ∧ Acts G S i c) ∧ M' c o = w.cell? ⟨c, o, none⟩

theorem Knows.refl {n : Nat} : Knows G S w n G.M := ⟨MLe.refl _, fun _ _ h => absurd rfl h⟩

open Classical in
theorem Knows.union {n : Nat} {M1 M2 : Mem} (h1 : Knows G S w n M1) (h2 : Knows G S w n M2) : ∃ M, Knows G S w n M ∧ MLe M1 M ∧ MLe M2 M := by
  refine ⟨fun c o => if M1 c o ≠ G.M c o then M1 c o else M2 c o, ⟨fun c o v hv => ?_, fun c o hd => ?_⟩, fun c o v hv => ?_, fun c o v hv => ?_⟩
  · show (if _ then _ else _) = _
    split
    · exact h1.le _ _ _ hv
    · exact h2.le _ _ _ hv
  · by_cases hc : M1 c o ≠ G.M c o
    · simp only [if_pos hc] at hd ⊢
      exact h1.diff c o hc
    · simp only [if_neg hc] at hd ⊢
      exact h2.diff c o hd
  · show (if _ then _ else _) = _
    split
    · exact hv
    · rename_i hc
      have : M1 c o = G.M c o := Classical.not_not.1 hc
      exact h2.le _ _ _ (this ▸ hv)
  · show (if _ then _ else _) = _
    split
    · rename_i hc
      have e1 := (h1.diff c o hc).2
      by_cases hd : M2 c o = G.M c o
      · exact absurd (by rw [h1.le c o v (hd ▸ hv), ← hd, hv]) hc
      · rw [e1, ← (h2.diff c o hd).2]; exact hv
    · exact hv


def Gst.with (G : Gst) (M' : Mem) : Gst := { G with M := M' }

theorem ext_with {M' : Mem} (h : MLe G.M M') : Ext S.length b G S (G.with M') S :=
  ⟨h, fun _ _ => rfl, fun _ _ k _ h => ⟨k, h, Nat.le_refl _, fun _ => rfl⟩, Nat.le_refl _, fun _ _ => rfl, fun _ _ e h => ⟨e, h, fun _ _ h => h⟩⟩

theorem fin1_ok (hs : Sat X G b S w) {n : Nat} {v : Value} {p q : AV} (hv : V2 G S v p) (hp : below S.length p = true) (h : fin1 n S p = some q) :
    ∃ M', Knows G S w n M' ∧ V2 (G.with M') S v q ∧ below S.length q = true := by
  have same : q = p → ∃ M', Knows G S w n M' ∧ V2 (G.with M') S v q ∧ below S.length q = true := fun e => ⟨G.M, Knows.refl, by subst e; exact hv, by subst e; exact hp⟩
  cases p <;> simp only [fin1, reduceCtorEq, Option.some.injEq] at h
  case sl xs t =>
    cases t with
    | own i =>
      simp only [fin1, Option.some.injEq] at h
      subst h
      cases hi : Nat.blt i n with
      | true => exact ⟨G.M, Knows.refl, hv, by simpa using hp⟩
      | false => exact ⟨G.M, Knows.refl, .one (.v0 hv.sl_none), by simp [below]⟩
    | none => simp only [fin1, Option.some.injEq] at h; exact same h.symm
    | full => simp only [fin1, Option.some.injEq] at h; exact same h.symm
  case osl i o l sz =>
    cases hi : Nat.blt i n with
    | true => rw [hi] at h; cases h; exact same rfl
    | false =>
      rw [hi] at h
      simp only [cond_false] at h
      obtain ⟨xs, h1, h⟩ := Option.bind_eq_some_iff.1 h
      obtain ⟨ys, h2, h⟩ := Option.bind_eq_some_iff.1 h
      cases h
      obtain ⟨M', k1, k2, k3⟩ := frozen_rows hs hv h1 h2
      refine ⟨M', ⟨k1, fun c o hd => ?_⟩, .one (.v0 k2), by simp [below]⟩
      obtain ⟨rfl, q2, q3, _⟩ := k3 c o hd
      have : ¬ i < n := fun h => by rw [blt_iff.2 h] at hi; cases hi
      exact ⟨⟨i, by omega, q2⟩, q3⟩
  case agg cs =>
    obtain ⟨cs', h1, h2⟩ := Option.bind_eq_some_iff.1 h
    cases h2
    obtain ⟨vs, rfl, k1, k2⟩ := hv.agg_inv
    have hl := imms_length h1
    refine ⟨G.M, Knows.refl, .agg _ _ (by omega) fun j hj => .v0 (imm1_ok (imms_get h1 (by omega) hj) (k2 j (by omega))), ?_⟩
    rw [below_agg_eq]
    exact belows_of_get fun j hj => (imm1_ok (imms_get h1 (by omega) hj) (k2 j (by omega))).low _
  all_goals exact same h.symm

theorem fins_ok (hs : Sat X G b S w) {n : Nat} : ∀ {xs ys : List AV} {vs : List Value}, vs.length = xs.length → (∀ j (h : j < xs.length), V2 G S (vs.getD j undef) (xs[j])) → (∀ j (h : j < xs.length), below S.length (xs[j]) = true) → fins n S xs = some ys →
    ∃ M', Knows G S w n M' ∧ ys.length = xs.length ∧ (∀ j (h : j < ys.length), V2 (G.with M') S (vs.getD j undef) (ys[j])) ∧ ∀ j (h : j < ys.length), below S.length (ys[j]) = true
  | [], ys, vs, _, _, _, h => by
    simp only [fins, Option.some.injEq] at h
    subst h
    exact ⟨G.M, Knows.refl, rfl, fun j hj => by simp at hj, fun j hj => by simp at hj⟩
  | x :: xs, ys, vs, hl, hv, hb, h => by
    simp only [fins, Option.bind_eq_some_iff] at h
    obtain ⟨y, h1, ys', h2, h3⟩ := h
    cases h3
    cases vs with
    | nil => simp at hl
    | cons v vs =>
      obtain ⟨M1, a1, a2, a3⟩ := fin1_ok hs (hv 0 (by simp)) (hb 0 (by simp)) h1
      obtain ⟨M2, c1, c2, c3, c4⟩ := fins_ok hs (vs := vs) (by simpa using hl) (fun j hj => hv (j + 1) (by simpa using hj)) (fun j hj => hb (j + 1) (by simpa using hj)) h2
      obtain ⟨M, d1, d2, d3⟩ := a1.union c1
      have up : ∀ {M1 : Mem} {v : Value} {q : AV}, MLe M1 M → V2 (G.with M1) S v q → below S.length q = true → V2 (G.with M) S v q := fun {M1 v q} hle hv hb => V2.mono (n := S.length) (b := b) (G := G.with M1) (G' := G.with M) (S' := S) ⟨hle, fun _ _ => rfl, fun _ _ k _ h => ⟨k, h, Nat.le_refl _, fun _ => rfl⟩, Nat.le_refl _, fun _ _ => rfl, fun _ _ e h => ⟨e, h, fun _ _ h => h⟩⟩ hv hb
      refine ⟨M, d1, by simp [c2], fun j hj => ?_, fun j hj => ?_⟩
      · cases j with
        | zero => exact up d2 a2 a3
        | succ j => exact up d3 (c3 j (by simpa using hj)) (c4 j (by simpa using hj))
      · cases j with
        | zero => exact a3
        | succ j => exact c4 j (by simpa using hj)


/-- The value handed back. -/
def outR (vs : List Value) : Value := match vs with
  | [v] => v
  | vs => .tuple vs.toArray

theorem out_ok {G : Gst} {S : Store} {vs : List Value} {xs : List AV} (hl : vs.length = xs.length) (hv : ∀ j (h : j < xs.length), V2 G S (vs.getD j undef) (xs[j])) : V2 G S (outR vs) (outV xs) := by
  have tup : ∀ (vs : List Value) (xs : List AV), vs.length = xs.length → (∀ j (h : j < xs.length), V2 G S (vs.getD j undef) (xs[j])) → V2 G S (.tuple vs.toArray) (.tup xs) := fun vs xs hl hv =>
    .tup _ _ (by simpa using hl) fun j hj => by
      have := hv j hj
      simpa [List.getD_eq_getElem?_getD, Array.getD_eq_getD_getElem?] using this
  match vs, xs, hl, hv with
  | [], [], hl, hv => exact tup [] [] hl hv
  | [v], [x], hl, hv => exact hv 0 (by simp)
  | v :: u :: vs, x :: y :: xs, hl, hv => exact tup _ _ hl hv

theorem out_below {n : Nat} {xs : List AV} (h : belows n xs = true) : below n (outV xs) = true := by
  unfold outV
  split
  · simpa [belows] using h
  · rw [below_tup_eq]; exact h


theorem fins_ok0 (hs : Sat X G b S w) {n : Nat} : ∀ {xs ys : List AV} {vs : List Value}, vs.length = xs.length → (∀ j (h : j < xs.length), V2 G S (vs.getD j undef) (xs[j])) → (∀ j (h : j < xs.length), below S.length (xs[j]) = true) → noOsl n xs = true → fins n S xs = some ys →
    ys.length = xs.length ∧ (∀ j (h : j < ys.length), V2 G S (vs.getD j undef) (ys[j])) ∧ ∀ j (h : j < ys.length), below S.length (ys[j]) = true
  | [], ys, vs, _, _, _, _, h => by
    simp only [fins, Option.some.injEq] at h
    subst h
    exact ⟨rfl, fun j hj => by simp at hj, fun j hj => by simp at hj⟩
  | x :: xs, ys, vs, hl, hv, hb, hno, h => by
    simp only [fins, Option.bind_eq_some_iff] at h
    obtain ⟨y, h1, ys', h2, h3⟩ := h
    cases h3
    cases vs with
    | nil => simp at hl
    | cons v vs =>
      have hx : V2 G S v y ∧ below S.length y = true := by
        have hv0 : V2 G S v x := hv 0 (by simp)
        have hb0 : below S.length x = true := hb 0 (by simp)
        cases x <;> simp only [fin1, reduceCtorEq, Option.some.injEq] at h1
        case sl xs t =>
          cases t with
          | own i =>
            simp only [fin1, Option.some.injEq] at h1
            subst h1
            cases hi : Nat.blt i n with
            | true => exact ⟨hv0, by simpa using hb0⟩
            | false => exact ⟨.one (.v0 hv0.sl_none), by simp [below]⟩
          | none => simp only [fin1, Option.some.injEq] at h1; subst h1; exact ⟨hv0, hb0⟩
          | full => simp only [fin1, Option.some.injEq] at h1; subst h1; exact ⟨hv0, hb0⟩
        case osl i o l sz =>
          simp only [noOsl, Bool.and_eq_true] at hno
          rw [hno.1] at h1
          cases h1
          exact ⟨hv0, hb0⟩
        case agg cs =>
          obtain ⟨cs', g1, g2⟩ := Option.bind_eq_some_iff.1 h1
          cases g2
          obtain ⟨vs, rfl, k1, k2⟩ := hv0.agg_inv
          have hl := imms_length g1
          refine ⟨.agg _ _ (by omega) fun j hj => .v0 (imm1_ok (imms_get g1 (by omega) hj) (k2 j (by omega))), ?_⟩
          rw [below_agg_eq]
          exact belows_of_get fun j hj => (imm1_ok (imms_get g1 (by omega) hj) (k2 j (by omega))).low _
        all_goals (subst h1; exact ⟨hv0, hb0⟩)
      have hno' : noOsl n xs = true := by
        cases x <;> first | exact hno | (simp only [noOsl, Bool.and_eq_true] at hno; exact hno.2)
      obtain ⟨c2, c3, c4⟩ := fins_ok0 hs (vs := vs) (by simpa using hl) (fun j hj => hv (j + 1) (by simpa using hj)) (fun j hj => hb (j + 1) (by simpa using hj)) hno' h2
      refine ⟨by simp [c2], fun j hj => ?_, fun j hj => ?_⟩
      · cases j with
        | zero => exact hx.1
        | succ j => exact c3 j (by simpa using hj)
      · cases j with
        | zero => exact hx.2
        | succ j => exact c4 j (by simpa using hj)

/-- What a call hands back. -/
theorem finish_ok {G0 : Gst} {S0 : Store} {w0 : World} {keep : Bool} {vs : List Value} {xs : List AV} {x : AV} {S' : Store} (hr : Rel X G S0.length N e S a w) (hE : Ext S0.length S0.length G0 S0 G S) (hK : Keep G0 S0 w0 G S w)
    (hl : vs.length = xs.length) (hv : ∀ j (h : j < xs.length), V2 G S (vs.getD j undef) (xs[j])) (hb : ∀ j (h : j < xs.length), below S.length (xs[j]) = true) (h : finish keep S0.length xs S = some (x, S')) :
    OpOK X G0 S0.length S0 w0 x S' (outR vs) w := by
  unfold finish at h
  obtain ⟨ys, h1, h2⟩ := Option.bind_eq_some_iff.1 h
  have hS := hE.len
  split at h2
  · rename_i hbel
    cases h2
    have hst : ∃ M', Knows G S w S0.length M' ∧ ys.length = xs.length ∧ (∀ j (h : j < ys.length), V2 (G.with M') S (vs.getD j undef) (ys[j])) := by
      cases keep with
      | true => cases h1; exact ⟨G.M, Knows.refl, rfl, hv⟩
      | false =>
        obtain ⟨M', a1, a2, a3, _⟩ := fins_ok hr.sat hl hv hb h1
        exact ⟨M', a1, a2, a3⟩
    obtain ⟨M', k1, k2, k3⟩ := hst
    have hlt : (S.take S0.length).length = S0.length := by simp; omega
    have ht := hr.sat.trim hS (Nat.le_refl _) (fun i _ h1 h2 _ => by omega)
    have hne : ∀ i c, Acts G (S.take S0.length) i c → ∀ o, M' c o = G.M c o := by
      intro i c ha o
      by_cases hd : M' c o = G.M c o
      · exact hd
      · obtain ⟨⟨i', hi', ha'⟩, _⟩ := k1.diff c o hd
        obtain ⟨q1, q2⟩ := acts_trim ha
        have := hr.sat.dis i i' c q1 ha'
        omega
    have hE1 : Ext (S.take S0.length).length S0.length G (S.take S0.length) (G.with M') (S.take S0.length) := ext_with k1.le
    have hs' : Sat X (G.with M') S0.length (S.take S0.length) w := by
      refine ⟨ht.below, ht.m0.trans k1.le, fun c o v hm => ?_, fun i en he => ?_, ht.dis, ht.base, ht.bel⟩
      · by_cases hd : M' c o = G.M c o
        · exact ht.im c o v (by rw [← hd]; exact hm)
        · rw [← (k1.diff c o hd).2]; exact hm
      · exact (ht.ent i en he).keep he hE1 (ht.lowS (by omega) he) rfl rfl rfl (fun _ _ => rfl) (fun c ha o ho => by show M' c o = none; rw [hne i c ha o]; exact ho)
    refine ⟨G.with M', (hE.trim (Nat.le_refl _) hS).trans hE1 (by omega), ⟨hK.size, hK.blk, fun i k ha => hK.act i k (acts_trim (G := G) ha).1, fun k o hk hno => ?_⟩, hs', ?_, by rw [hlt]; exact out_below hbel⟩
    · show M' k o = _
      rw [← hK.mem k o hk hno]
      by_cases hd : M' k o = G.M k o
      · exact hd
      · obtain ⟨⟨i', _, ha'⟩, _⟩ := k1.diff k o hd
        rcases hK.act i' k ha' with ⟨j, hj⟩ | hge
        · exact absurd hj (hno j)
        · omega
    · refine out_ok (by omega) fun j hj => ?_
      exact (k3 j hj).mono (b := S0.length) (((Ext.refl (b := S0.length) (G.with M') S).weak hS).trim (Nat.le_refl _) hS) (below_all_get hbel hj)
  · split at h2
    · rename_i hc
      cases h2
      have hst : ys.length = xs.length ∧ (∀ j (h : j < ys.length), V2 G S (vs.getD j undef) (ys[j])) ∧ ∀ j (h : j < ys.length), below S.length (ys[j]) = true := by
        cases keep with
        | true => cases h1; exact ⟨rfl, hv, hb⟩
        | false => exact fins_ok0 hr.sat hl hv hb (by simpa using hc) h1
      obtain ⟨k1, k2, k3⟩ := hst
      exact ⟨G, hE, hK, hr.sat, out_ok (by omega) k2, out_below (belows_of_get k3)⟩
    · cases h2

end
end Go.Abs

/-
  A function's text, and calls to whatever depth: what the reading comes to is what the program does.
-/
namespace Go.Abs
open Go Go.RowKit

section
variable {T : Tabs} {an : Ann} {X : Ctx} {G : Gst} {b N : Nat} {e : Env} {S : Store} {a : Act} {w : World} {C : CallEnv}

theorem outR_eq (vs : List Value) : (if h : vs.toArray.size = 1 then vs.toArray[0] else .tuple vs.toArray) = outR vs := by
  match vs with
  | [] => rfl
  | [v] => rfl
  | _ :: _ :: _ => rfl

theorem results_run {fn : Func} {tmps : Array Value} {vs : List Value}
    (h : (fn.results.toList.mapM fun r => (match r with | .tmp t => pure (tmps.getD t undef) | .cell ad t => do loadVar t (← asAddr (tmps.getD ad undef)) : Sem Value)).run T.P w = .ok vs w) :
    (results fn tmps).run T.P w = .ok (outR vs) w := by
  unfold results
  rw [Array.mapM_eq_mapM_toList]
  have h2 : ((fn.results.toList.mapM (fun | .tmp t => pure (tmps.getD t undef) | .cell ad t => do loadVar t (← asAddr (tmps.getD ad undef)) : ResultVar → Sem Value))).run T.P w = .ok vs w := h
  simp only [map_eq_pure_bind, Sem.run_bind, Sem.run_pure, Result.andThen_ok]
  refine (congrArg (fun r => (Result.andThen r _ : Result _)) ((congrArg (fun r => (Result.andThen r _ : Result _)) h2))).trans ?_
  simp only [Result.andThen_ok, outR_eq]

theorem initEnv (args : List AV) (n t : Nat) : ∃ k : Nat, (envOf (List.range n) args 0 fun _ => .u) t = if t < n then args.getD t .u else .u := by
  have key : ∀ (ks : List Nat) (i : Nat), (∀ j (h : j < ks.length), ks[j] = i + j) → (envOf ks args i fun _ => .u) t = if i ≤ t ∧ t < i + ks.length then args.getD t .u else .u := by
    intro ks
    induction ks with
    | nil => intro i _; simp [envOf]; intro h1 h2; omega
    | cons k ks ih =>
      intro i hk
      have h0 : k = i := by have := hk 0 (by simp); simpa using this
      subst h0
      have ih' := ih (k + 1) (fun j hj => by have := hk (j + 1) (by simp; omega); simp at this; omega)
      simp only [envOf]
      cases hb : Nat.beq k t with
      | true =>
        obtain rfl : k = t := Nat.eq_of_beq_eq_true hb
        simp
      | false =>
        have hne : k ≠ t := fun h => by subst h; simp [Nat.beq_refl] at hb
        simp only [cond_false, ih', List.length_cons]
        by_cases h1 : k + 1 ≤ t ∧ t < k + 1 + ks.length
        · rw [if_pos h1, if_pos (by omega)]
        · rw [if_neg h1, if_neg (by omega)]
  refine ⟨0, ?_⟩
  rw [key (List.range n) 0 (fun j hj => by simp)]
  simp

/-- What a reading of a function's text answers is what a call of it does. -/
theorem func_ok (B : Base T X C) (hm : T.P.follows .mixedOrders = true) {f : Nat} {fn : Func} {sf : SFunc} {args : List AV} {x : AV} {S' : Store} {vs : Array Value} (hf : T.P.funcs[f]? = some fn) (hc : funcC T an fn = some sf) (hd : denF C sf args S = some (x, S'))
    (hs : Sat X G S.length S w) (ha : ArgsOK G S vs args) : Calls T.P f vs w fun ε w' => ∃ v, ε = .returned v ∧ OpOK X G S.length S w x S' v w' := by
  unfold funcC at hc
  simp only [Option.bind_eq_some_iff] at hc
  obtain ⟨c, hb, x1, hcode, rs, hres, hc⟩ := hc
  obtain ⟨hcond, hc⟩ := bif_some hc
  cases hc
  simp only [Bool.and_eq_true, List.all_eq_true, Nat.ble_eq] at hcond
  obtain ⟨hwr, hpar⟩ := hcond
  refine calls_of_wp hf hb ?_
  unfold denF at hd
  simp only at hd
  have hsz := ha.size
  -- the frame at the outset
  have hget : ∀ t, (vs ++ Array.replicate (fn.ntmps - vs.size) undef).getD t undef = if h : t < vs.size then vs[t] else undef := by
    intro t
    rw [Array.getD_eq_getD_getElem?, Array.getElem?_append]
    split
    · rename_i h; simp [h]
    · rename_i h
      rw [Array.getElem?_replicate]
      split <;> simp
  have hrel : Rel X G S.length (max vs.size fn.ntmps) (envOf (List.range (fn.params.size + fn.nfree)) args 0 fun _ => .u) S { tmps := vs ++ Array.replicate (fn.ntmps - vs.size) undef, defers := [] } w := by
    refine ⟨hs, Nat.le_refl _, by simp; omega, rfl, fun t => ?_, fun t => ?_⟩
    · obtain ⟨_, he⟩ := initEnv args (fn.params.size + fn.nfree) t
      rw [he]
      show V2 G S ((vs ++ Array.replicate (fn.ntmps - vs.size) undef).getD t undef) _
      split
      · by_cases hj : t < args.length
        · have h1 := ha.v2 t hj
          have e1 : (vs ++ Array.replicate (fn.ntmps - vs.size) undef).getD t undef = vs.getD t undef := by
            rw [hget, dif_pos (by omega), Array.getD_eq_getD_getElem?]
            simp [show t < vs.size by omega]
          rw [e1]
          simpa [List.getD_eq_getElem?_getD, hj] using h1
        · simp only [List.getD_eq_getElem?_getD, List.getElem?_eq_none (Nat.le_of_not_lt hj), Option.getD_none]
          exact .u _
      · exact .u _
    · obtain ⟨_, he⟩ := initEnv args (fn.params.size + fn.nfree) t
      rw [he]
      split
      · by_cases hj : t < args.length
        · simpa [List.getD_eq_getElem?_getD, hj] using ha.bel t hj
        · simp only [List.getD_eq_getElem?_getD, List.getElem?_eq_none (Nat.le_of_not_lt hj), Option.getD_none]
          simp [below_tup_eq, belows]
      · simp [below_tup_eq, belows]
  have hN : ∀ t ∈ x1.1.writes, t < max vs.size fn.ntmps := fun t ht => by have := hwr t ht; rw [blt_iff] at this; omega
  refine wp_mono (code_ok B hm (SizeOf.sizeOf c + 1) c (by omega) hcode hN hrel hd) fun ε a' w' ⟨y, e', S1, h1, hk, h2⟩ => ?_
  subst h1
  obtain ⟨⟨G', r2, E2, K2⟩, _⟩ := h2
  have fin : ((resVs e' S1 rs).bind fun vs => finish an.keep S.length vs S1) = some (x, S') → a'.defers = [] ∧ ∃ v, (results fn a'.tmps).run T.P w' = .ok v w' ∧ ∃ u, Ending.returned v = .returned u ∧ OpOK X G S.length S w x S' u w' := by
    intro h
    obtain ⟨xs, h3, h4⟩ := Option.bind_eq_some_iff.1 h
    obtain ⟨us, k1, k2, k3, k4⟩ := resVs_ok r2 hres h3
    exact ⟨r2.defers, _, results_run k1, _, rfl, finish_ok r2 E2 K2 k2 k3 k4 h4⟩
  cases y with
  | normal => exact fin hk
  | ret => exact fin hk
  | exit i => cases hk

end

/-- Functions that are given otherwise keep their contracts. -/
def OverOK (Y : Prg) (X : Ctx) : Prop := ∀ f g, Y.ov f = some g → ∀ args S x S', g args S = some (x, S') →
  (∃ fn, Y.T.P.funcs[f]? = some fn ∧ fn.body.isSome = true) ∧
  ∀ G w vs, Sat X G S.length S w → ArgsOK G S vs args → Calls Y.T.P f vs w fun ε w' => ∃ v, ε = .returned v ∧ OpOK X G S.length S w x S' v w'

theorem contract_step {Y : Prg} {X : Ctx} {C : CallEnv} (hg : GlobOK Y.T X) (he : Enters Y.T.P) (hm : Y.T.P.follows .mixedOrders = true) (ho : OverOK Y X) (hC : Contract Y.T X C) : Contract Y.T X (Y.step C) := by
  intro f args S x S' h
  unfold Prg.step at h
  split at h
  · rename_i g hov
    exact ho f g hov args S x S' h
  · split at h
    · rename_i sf hsf
      obtain ⟨fn, h1, h2⟩ := Option.bind_eq_some_iff.1 hsf
      refine ⟨⟨fn, h1, ?_⟩, fun G w vs hs ha => func_ok ⟨hg, he, hC⟩ hm h1 h2 h hs ha⟩
      unfold funcC at h2
      obtain ⟨b, hb, _⟩ := Option.bind_eq_some_iff.1 h2
      simp [hb]
    · cases h

theorem contract_callN {Y : Prg} {X : Ctx} (hg : GlobOK Y.T X) (he : Enters Y.T.P) (hm : Y.T.P.follows .mixedOrders = true) (ho : OverOK Y X) : ∀ n, Contract Y.T X (Y.callN n)
  | 0 => fun f args S x S' h => by simp [Prg.callN] at h
  | n + 1 => contract_step hg he hm ho (contract_callN hg he hm ho n)

/-- ████ What the reading answers is what the program does. -/
theorem contract_call {Y : Prg} {X : Ctx} (hg : GlobOK Y.T X) (he : Enters Y.T.P) (hm : Y.T.P.follows .mixedOrders = true) (ho : OverOK Y X) : Contract Y.T X Y.call := fun f args S x S' h => by
  obtain ⟨n, hn⟩ := Y.call_some h
  exact contract_callN hg he hm ho n f args S x S' (hn n (Nat.le_refl _))

end Go.Abs

/-
  From a row's reading of the arguments to abstract values, and from the contract of the functions to a row's 'post'.
-/
namespace Go.Abs
open Go Go.RowKit Go.ChangeShapes Go.WideShapes

/-! ### The cells of a datum -/
section
variable {H : Type}

mutual
def cellsD : DataW H → List AV
  | .lit (.int k n) => [.int k n]
  | .lit (.bool b) => [.bool b]
  | .lit (.string s) => [.str s]
  | .nil => [.sl [] .none]
  | .slice elems _ => [.sl (rowsD elems) .none]
  | .agg parts => (rowsD parts).flatten
  | _ => []
def rowsD : List (DataW H) → List (List AV)
  | [] => []
  | d :: ds => cellsD d :: rowsD ds
end

theorem rowsD_map (l : List (DataW H)) : rowsD l = l.map cellsD := by
  induction l with
  | nil => rfl
  | cons a l ih => simp [rowsD, ih]

/-- Types of bools, whole numbers, strings, slices, structs and arrays. -/
def tight (P : Program) : List Field → Nat → Option Nat
  | [], o => some o
  | f :: fs, o => if f.offset = o then tight P fs (o + P.cellsOf f.type) else none

def plainT (P : Program) : Nat → TypeId → Bool
  | 0, _ => false
  | n + 1, t =>
    match P.underlying t with
    | some .bool => true
    | some (.int _) => true
    | some .string => true
    | some (.slice e) => plainT P n e && decide (1 ≤ P.cellsOf e)
    | some (.struct fs) => decide (tight P fs.toList 0 = some (P.cellsOf t)) && fs.toList.all fun f => plainT P n f.type
    | some (.array k e) => decide (P.cellsOf t = k * P.cellsOf e) && plainT P n e
    | _ => false

/-- What cells a type's values have. -/
def FitsF (F : TypeId → List AV → Prop) : List Field → List AV → Prop
  | [], as_ => as_ = []
  | f :: fs, as_ => ∃ a b, as_ = a ++ b ∧ F f.type a ∧ FitsF F fs b

def FitsK (F : List AV → Prop) : Nat → List AV → Prop
  | 0, as_ => as_ = []
  | k + 1, as_ => ∃ a b, as_ = a ++ b ∧ F a ∧ FitsK F k b

def Fits (P : Program) : Nat → TypeId → List AV → Prop
  | 0, _, _ => False
  | n + 1, t, as_ =>
    match P.underlying t with
    | some .bool => ∃ b, as_ = [.bool b]
    | some (.int k) => ∃ z, as_ = [.int k z] ∧ (Lit.int k z).wf = true
    | some .string => ∃ s, as_ = [.str s] ∧ s.length ≤ maxLen
    | some (.slice e) => ∃ xs, as_ = [.sl xs .none] ∧ xs.length ≤ maxLen ∧ ∀ x ∈ xs, Fits P n e x
    | some (.struct fs) => FitsF (Fits P n) fs.toList as_
    | some (.array k e) => FitsK (Fits P n e) k as_
    | _ => False

def memOf (W : World) : Mem := fun b o => W.cell? ⟨b, o, none⟩

/-- Cell by cell. -/
def Cells (M : Mem) : List Value → List AV → Prop
  | [], [] => True
  | v :: vs, a :: as_ => V0 M v a ∧ Cells M vs as_
  | _, _ => False

theorem Cells.length {M : Mem} : ∀ {vs : List Value} {as_ : List AV}, Cells M vs as_ → vs.length = as_.length
  | [], [], _ => rfl
  | _ :: _, _ :: _, h => by simp [h.2.length]
  | [], _ :: _, h => h.elim
  | _ :: _, [], h => h.elim

theorem Cells.append {M : Mem} : ∀ {vs vs' : List Value} {as_ as' : List AV}, Cells M vs as_ → Cells M vs' as' → Cells M (vs ++ vs') (as_ ++ as')
  | [], _, [], _, _, h' => h'
  | _ :: _, _, _ :: _, _, h, h' => ⟨h.1, h.2.append h'⟩
  | [], _, _ :: _, _, h, _ => h.elim
  | _ :: _, _, [], _, h, _ => h.elim

theorem Cells.get {M : Mem} : ∀ {vs : List Value} {as_ : List AV}, Cells M vs as_ → ∀ j (h : j < as_.length), V0 M (vs.getD j undef) (as_[j])
  | _ :: _, _ :: _, h, 0, _ => h.1
  | _ :: vs, _ :: as_, h, j + 1, hj => by
    have := h.2.get j (by simpa using hj)
    simpa using this
  | [], _ :: _, h, _, _ => h.elim

theorem Cells.get' {M : Mem} {vs : List Value} {as_ : List AV} (h : Cells M vs as_) (j : Nat) (hj : j < as_.length) : ∃ v, vs[j]? = some v ∧ V0 M v (as_[j]) := by
  have hl := h.length
  refine ⟨vs[j]'(by omega), by rw [List.getElem?_eq_getElem], ?_⟩
  have := h.get j hj
  rwa [List.getD_eq_getElem?_getD, List.getElem?_eq_getElem (by omega)] at this

theorem mapM_cons_some {α β : Type} {f : α → Option β} {a : α} {l : List α} {r : List β} (h : (a :: l).mapM f = some r) : ∃ b r', f a = some b ∧ l.mapM f = some r' ∧ r = b :: r' := by
  simp only [List.mapM_cons, Option.bind_eq_bind, Option.bind_eq_some_iff, Option.pure_def, Option.some.injEq] at h
  obtain ⟨b, h1, r', h2, h3⟩ := h
  exact ⟨b, r', h1, h2, h3.symm⟩

theorem mapM_get {α β : Type} {f : α → Option β} : ∀ {l : List α} {r : List β}, l.mapM f = some r → r.length = l.length ∧ ∀ j (h : j < l.length), ∃ b, f l[j] = some b ∧ r[j]? = some b
  | [], r, h => by
    simp only [List.mapM_nil, Option.pure_def, Option.some.injEq] at h
    subst h
    exact ⟨rfl, fun j hj => by simp at hj⟩
  | a :: l, r, h => by
    obtain ⟨b, r', h1, h2, rfl⟩ := mapM_cons_some h
    obtain ⟨h3, h4⟩ := mapM_get h2
    refine ⟨by simp [h3], fun j hj => ?_⟩
    cases j with
    | zero => exact ⟨b, h1, rfl⟩
    | succ j =>
      obtain ⟨c, h5, h6⟩ := h4 j (by simpa using hj)
      exact ⟨c, by simpa using h5, by simpa using h6⟩

section
variable {enc : TypeId × Value → H} {P : Program} {W : World} {held : Bool}

theorem cells?_get {a : Addr} {n : Nat} {l : List Value} (h : W.cells? 0 a n = some l) : l.length = n ∧ ∀ j, j < n → W.cell? (a.add j) = l[j]? := by
  simp only [World.cells?, Nat.zero_le, if_true] at h
  obtain ⟨h1, h2⟩ := mapM_get h
  rw [List.length_range] at h1
  refine ⟨h1, fun j hj => ?_⟩
  obtain ⟨b, h3, h4⟩ := h2 j (by simpa using hj)
  rw [List.getElem_range] at h3
  rw [h3, h4]

theorem cell_spot {a : Addr} {v : Value} (h : W.cell? a = some v) : a.spot = none := by
  unfold World.cell? at h
  split at h
  · split at h
    · cases h
    · rename_i hs
      simpa using hs
  · cases h

theorem addr_add_spot {a : Addr} (ha : a.spot = none) (n : Nat) : a.add n = ⟨a.block, a.off + n, none⟩ := by
  obtain ⟨b, o, s⟩ := a
  simp only at ha
  subst ha
  unfold Addr.add
  split
  · rename_i h; subst h; rfl
  · rfl

theorem Row.append {M : Mem} {b o : Nat} {x y : List AV} (hx : Row M b o x) (hy : Row M b (o + x.length) y) : Row M b o (x ++ y) := by
  intro j hj
  by_cases h : j < x.length
  · rw [List.getElem_append_left h]; exact hx j h
  · rw [List.getElem_append_right (by omega)]
    obtain ⟨v, h1, h2⟩ := hy (j - x.length) (by simp at hj; omega)
    exact ⟨v, by rw [← h1]; congr 1; omega, h2⟩

theorem Row.flatten {M : Mem} {b sz : Nat} : ∀ {xs : List (List AV)} {o : Nat}, (∀ j (h : j < xs.length), (xs[j]).length = sz ∧ Row M b (o + j * sz) (xs[j])) → Row M b o xs.flatten
  | [], _, _ => fun j hj => by simp at hj
  | x :: xs, o, h => by
    obtain ⟨h1, h2⟩ := h 0 (by simp)
    simp only [List.getElem_cons_zero, Nat.zero_mul, Nat.add_zero] at h1 h2
    refine h2.append (Row.flatten (sz := sz) fun j hj => ?_)
    obtain ⟨h3, h4⟩ := h (j + 1) (by simpa using hj)
    simp only [List.getElem_cons_succ] at h3 h4
    refine ⟨h3, ?_⟩
    rw [h1, Nat.add_assoc]
    rwa [Nat.add_mul, Nat.one_mul, Nat.add_comm (j * sz)] at h4

theorem Cells.row {M : Mem} {b o : Nat} {vs : List Value} {as_ : List AV} (h : Cells M vs as_) (hm : ∀ j, j < vs.length → M b (o + j) = vs[j]?) : Row M b o as_ := by
  intro j hj
  obtain ⟨v, h1, h2⟩ := h.get' j hj
  exact ⟨v, by rw [hm j (by rw [h.length]; exact hj), h1], h2⟩

/-- The slice's rows. -/
theorem trod_rows {t e : TypeId} {fuel : Nat} {a : Addr} {len cap : Nat} {x : DataW H × List MemPlace} (ht : P.underlying t = some (.slice e)) (hce : 1 ≤ P.cellsOf e)
    {n : Nat} (ih : ∀ {cs : List Value} {y : DataW H × List MemPlace}, DataW.trod enc P W 0 (fun _ => true) held fuel e cs = some y → Cells (memOf W) cs (cellsD y.1) ∧ Fits P n e (cellsD y.1))
    (h : DataW.trod enc P W 0 (fun _ => true) held (fuel + 1) t [.slice (some a) len cap] = some x) : Cells (memOf W) [.slice (some a) len cap] (cellsD x.1) ∧ ∃ xs, cellsD x.1 = [.sl xs .none] ∧ xs.length ≤ maxLen ∧ ∀ x ∈ xs, Fits P n e x := by
  unfold DataW.trod at h
  rw [ht] at h
  simp only [Nat.zero_le, true_and, if_true, Option.ite_none_right_eq_some, Option.bind_eq_some_iff, Option.map_eq_some_iff] at h
  obtain ⟨⟨hlc, hcm⟩, elems, h1, rest, h2, rfl⟩ := h
  obtain ⟨g1, g2⟩ := mapM_get h1
  obtain ⟨r1, r2⟩ := mapM_get h2
  simp only [List.length_range] at g1 r1
  have el : ∀ j (hj : j < elems.length), ∃ cs, W.cells? 0 (a.add (j * P.cellsOf e)) (P.cellsOf e) = some cs ∧ Cells (memOf W) cs (cellsD (elems[j]).1) ∧ Fits P n e (cellsD (elems[j]).1) := by
    intro j hj
    obtain ⟨y, h3, h4⟩ := g2 j (by simp; omega)
    rw [List.getElem_range] at h3
    obtain ⟨cs, h5, h6⟩ := Option.bind_eq_some_iff.1 h3
    rw [List.getElem?_eq_getElem hj] at h4
    cases h4
    exact ⟨cs, h5, ih h6⟩
  by_cases hc0 : cap = 0
  · obtain rfl : len = 0 := by omega
    subst hc0
    have : elems = [] := List.eq_nil_of_length_eq_zero g1
    subst this
    exact ⟨⟨.nilsl _ _ trivial, trivial⟩, [], rfl, by simp, fun _ h => by cases h⟩
  · have hspot : a.spot = none := by
      have : ∃ cs, W.cells? 0 (a.add 0) (P.cellsOf e) = some cs := by
        by_cases hl0 : len = 0
        · subst hl0
          obtain ⟨y, h3, h4⟩ := r2 0 (by simp; omega)
          rw [List.getElem_range] at h3
          obtain ⟨cs, h5, _⟩ := Option.bind_eq_some_iff.1 h3
          exact ⟨cs, by simpa using h5⟩
        · obtain ⟨cs, h3, _⟩ := el 0 (by omega)
          exact ⟨cs, by simpa using h3⟩
      obtain ⟨cs, hcs⟩ := this
      obtain ⟨q1, q2⟩ := cells?_get hcs
      have := q2 0 (by omega)
      rw [List.getElem?_eq_getElem (by omega)] at this
      have := cell_spot this
      simpa [Addr.add] using this
    obtain ⟨ab, ao, asp⟩ := a
    simp only at hspot
    subst hspot
    have hrow : ∀ j (h : j < elems.length), (cellsD (elems[j]).1).length = P.cellsOf e ∧ Row (memOf W) ab (ao + j * P.cellsOf e) (cellsD (elems[j]).1) := by
      intro j hj
      obtain ⟨cs, h3, h5, _⟩ := el j hj
      obtain ⟨q1, q2⟩ := cells?_get h3
      refine ⟨by rw [← h5.length]; exact q1, h5.row fun k hk => ?_⟩
      rw [q1] at hk
      rw [← q2 k hk, addr_add_spot (a := ⟨ab, ao, none⟩) rfl, addr_add_spot rfl]
      rfl
    refine ⟨⟨V0.of_row (sz := P.cellsOf e) trivial ?_ hlc (fun y hy => ?_) (fun h => h.elim) (Row.flatten (sz := P.cellsOf e) fun j hj => ?_), trivial⟩, _, rfl, by simp [rowsD_map, g1]; omega, fun y hy => ?_⟩
    · rw [rowsD_map]; simp [g1]
    · rw [rowsD_map] at hy
      obtain ⟨z, hz, rfl⟩ := List.mem_map.1 hy
      obtain ⟨z', hz', rfl⟩ := List.mem_map.1 hz
      obtain ⟨i, hi, rfl⟩ := List.getElem_of_mem hz'
      exact (hrow i hi).1
    · simp only [rowsD_map, List.length_map] at hj
      have := hrow j hj
      simpa [rowsD_map] using this
    · rw [rowsD_map] at hy
      obtain ⟨z, hz, rfl⟩ := List.mem_map.1 hy
      obtain ⟨z', hz', rfl⟩ := List.mem_map.1 hz
      obtain ⟨i, hi, rfl⟩ := List.getElem_of_mem hz'
      obtain ⟨_, _, _, h9⟩ := el i hi
      exact h9

/-- A struct's fields. -/
theorem trod_fields {fuel n : Nat} (ih : ∀ {e : TypeId}, plainT P n e = true → ∀ {cs : List Value} {y : DataW H × List MemPlace}, DataW.trod enc P W 0 (fun _ => true) held fuel e cs = some y → Cells (memOf W) cs (cellsD y.1) ∧ Fits P n e (cellsD y.1)) {cs : List Value} :
    ∀ {fs : List Field} {o : Nat} {xs : List (DataW H × List MemPlace)}, tight P fs o = some cs.length → (fs.all fun f => plainT P n f.type) = true →
      fs.mapM (fun f => DataW.trod enc P W 0 (fun _ => true) held fuel f.type ((cs.drop f.offset).take (P.cellsOf f.type))) = some xs → Cells (memOf W) (cs.drop o) (rowsD (xs.map (·.1))).flatten ∧ FitsF (Fits P n) fs (rowsD (xs.map (·.1))).flatten
  | [], o, xs, h, _, hm => by
    simp only [tight, Option.some.injEq] at h
    simp only [List.mapM_nil, Option.pure_def, Option.some.injEq] at hm
    subst hm
    rw [h, List.drop_length]
    exact ⟨trivial, rfl⟩
  | f :: fs, o, xs, h, hp, hm => by
    obtain ⟨y, ys, h1, h2, rfl⟩ := mapM_cons_some hm
    simp only [tight] at h
    split at h
    · rename_i ho
      simp only [List.all_cons, Bool.and_eq_true] at hp
      have k1 := ih hp.1 h1
      have k2 := trod_fields ih h hp.2 h2
      rw [ho] at k1
      have : cs.drop o = (cs.drop o).take (P.cellsOf f.type) ++ cs.drop (o + P.cellsOf f.type) := by
        rw [← List.drop_drop, List.take_append_drop]
      rw [this]
      exact ⟨k1.1.append k2.1, _, _, rfl, k1.2, k2.2⟩
    · cases h

theorem trod_parts {fuel n : Nat} {e : TypeId} (ih : ∀ {cs : List Value} {y : DataW H × List MemPlace}, DataW.trod enc P W 0 (fun _ => true) held fuel e cs = some y → Cells (memOf W) cs (cellsD y.1) ∧ Fits P n e (cellsD y.1)) {cs : List Value} :
    ∀ {k m : Nat} {xs : List (DataW H × List MemPlace)}, cs.length = (m + k) * P.cellsOf e →
      (List.range' m k).mapM (fun i => DataW.trod enc P W 0 (fun _ => true) held fuel e ((cs.drop (i * P.cellsOf e)).take (P.cellsOf e))) = some xs → Cells (memOf W) (cs.drop (m * P.cellsOf e)) (rowsD (xs.map (·.1))).flatten ∧ FitsK (Fits P n e) k (rowsD (xs.map (·.1))).flatten
  | 0, m, xs, h, hm => by
    simp only [List.range'_zero, List.mapM_nil, Option.pure_def, Option.some.injEq] at hm
    subst hm
    rw [Nat.add_zero] at h
    rw [← h, List.drop_length]
    exact ⟨trivial, rfl⟩
  | k + 1, m, xs, h, hm => by
    rw [List.range'_succ] at hm
    obtain ⟨y, ys, h1, h2, rfl⟩ := mapM_cons_some hm
    have k1 := ih h1
    have k2 := trod_parts ih (k := k) (m := m + 1) (by rw [h]; congr 1; omega) h2
    have : cs.drop (m * P.cellsOf e) = (cs.drop (m * P.cellsOf e)).take (P.cellsOf e) ++ cs.drop ((m + 1) * P.cellsOf e) := by
      rw [Nat.add_mul, Nat.one_mul, ← List.drop_drop, List.take_append_drop]
    rw [this]
    exact ⟨k1.1.append k2.1, _, _, rfl, k1.2, k2.2⟩

/-- What is read is there, cell by cell. -/
theorem trod_cells (n : Nat) : ∀ {t : TypeId}, plainT P n t = true → ∀ {fuel : Nat} {cs : List Value} {x : DataW H × List MemPlace}, DataW.trod enc P W 0 (fun _ => true) held fuel t cs = some x → Cells (memOf W) cs (cellsD x.1) ∧ Fits P n t (cellsD x.1) := by
  induction n with
  | zero => intro t hp; simp [plainT] at hp
  | succ n IH =>
    intro t hp fuel cs x h
    cases fuel with
    | zero => simp [DataW.trod] at h
    | succ fuel =>
    unfold plainT at hp
    unfold Fits
    split at hp
    · rename_i ht
      unfold DataW.trod at h
      rw [ht] at h
      split at h <;> rename_i ht' <;> simp only [reduceCtorEq, Option.some.injEq] at h ht'
      subst h
      exact ⟨⟨.bool _, trivial⟩, _, rfl⟩
    · rename_i k ht
      unfold DataW.trod at h
      rw [ht] at h
      split at h <;> rename_i ht' <;> simp only [reduceCtorEq, Option.some.injEq, Option.ite_none_right_eq_some, TypeDesc.int.injEq] at h ht'
      subst ht'
      obtain ⟨⟨rfl, h2⟩, rfl⟩ := h
      exact ⟨⟨.int _ _, trivial⟩, _, rfl, h2⟩
    · rename_i ht
      unfold DataW.trod at h
      rw [ht] at h
      split at h <;> rename_i ht' <;> simp only [reduceCtorEq, Option.some.injEq, Option.ite_none_right_eq_some] at h ht'
      obtain ⟨h1, rfl⟩ := h
      exact ⟨⟨.str _ _ rfl, trivial⟩, _, rfl, by simpa using h1⟩
    · rename_i e ht
      simp only [Bool.and_eq_true, decide_eq_true_eq] at hp
      have h0 := h
      unfold DataW.trod at h
      rw [ht] at h
      split at h <;> rename_i ht' <;> simp only [reduceCtorEq, Option.some.injEq, TypeDesc.slice.injEq] at h ht'
      · subst h
        exact ⟨⟨.nilsl _ _ trivial, trivial⟩, [], rfl, by simp, fun _ h => by cases h⟩
      · exact trod_rows ht hp.2 (fun h => IH hp.1 h) h0
    · rename_i fs ht
      simp only [Bool.and_eq_true, decide_eq_true_eq] at hp
      unfold DataW.trod at h
      rw [ht] at h
      simp only [Option.ite_none_right_eq_some, Option.map_eq_some_iff] at h
      obtain ⟨hl, xs, h1, rfl⟩ := h
      have := trod_fields (o := 0) (fun hp => IH hp) (by rw [hl]; exact hp.1) hp.2 h1
      simpa [cellsD] using this
    · rename_i k e ht
      simp only [Bool.and_eq_true, decide_eq_true_eq] at hp
      unfold DataW.trod at h
      rw [ht] at h
      simp only [Option.ite_none_right_eq_some, Option.map_eq_some_iff] at h
      obtain ⟨hl, xs, h1, rfl⟩ := h
      rw [List.range_eq_range'] at h1
      have := trod_parts (k := k) (m := 0) (fun h => IH hp.2 h) (by rw [hl, hp.1]; simp) h1
      simpa [cellsD] using this
    · simp at hp

def isAggT (P : Program) (t : TypeId) : Bool :=
  match P.underlying t with
  | some (.struct _) => true
  | some (.array _ _) => true
  | _ => false

/-- An argument as_ the functions take it. -/
def FitsA (P : Program) (n : Nat) (t : TypeId) (a : AV) : Prop :=
  if isAggT P t = true then ∃ cs, a = .agg cs ∧ Fits P n t cs else Fits P n t [a]

def FitsAll (P : Program) (n : Nat) : List TypeId → List AV → Prop
  | [], [] => True
  | t :: ts, a :: as_ => FitsA P n t a ∧ FitsAll P n ts as_
  | _, _ => False

theorem arg_ok {n : Nat} {t : TypeId} {v : Value} {d : DataW H} {p : List MemPlace} {base : Nat} (hp : plainT P n t = true) (ho : Value.okWide P W .any base t v) (h : DataW.Trod enc P W 0 (fun _ => true) held t v d p) :
    ∃ a, V2 ⟨memOf W, fun _ => 0, fun _ => undef, fun _ => 0⟩ [] v a ∧ below 0 a = true ∧ FitsA P n t a := by
  obtain ⟨fuel, h⟩ := h
  obtain ⟨h1, h2⟩ := trod_cells n hp h
  have hbel : ∀ j (hj : j < (cellsD d).length), below 0 ((cellsD d)[j]) = true := fun j hj => (h1.get j hj).low 0
  unfold Value.okWide at ho
  unfold FitsA
  by_cases ha : isAggT P t = true
  · simp only [if_pos ha]
    have : ∃ cs, v = .agg cs := by
      unfold isAggT at ha
      split at ha
      · rename_i hd; rw [hd] at ho; obtain ⟨cs, h3, _⟩ := ho; exact ⟨cs, h3⟩
      · rename_i hd; rw [hd] at ho; obtain ⟨cs, h3, _⟩ := ho; exact ⟨cs, h3⟩
      · cases ha
    obtain ⟨cs, rfl⟩ := this
    have hc : Value.cells (.agg cs) = cs := rfl
    rw [hc] at h1
    refine ⟨.agg (cellsD d), .agg cs _ (by have := h1.length; simpa using this) fun j hj => .v0 ?_, ?_, _, rfl, h2⟩
    · have := h1.get j hj
      rwa [List.getD_eq_getElem?_getD, Array.getElem?_toList, ← Array.getD_eq_getD_getElem?] at this
    · rw [below_agg_eq]; exact belows_of_get hbel
  · simp only [if_neg ha]
    have hv : v.cells = #[v] := by
      have ho' : Cell.okWide P W .any base t v := by
        unfold isAggT at ha
        split at ho
        · rename_i hd; rw [hd] at ha; exact absurd rfl ha
        · rename_i hd; rw [hd] at ha; exact absurd rfl ha
        · exact ho
      cases v <;> first | rfl | skip
      unfold Cell.okWide Cell.ok at ho'
      split at ho' <;> first | (rename_i hx; cases hx; done) | skip
      split at ho' <;> first | exact ho'.elim | (rename_i hx; cases hx)
    rw [hv] at h1
    have hl := h1.length
    obtain ⟨a, ha'⟩ : ∃ a, cellsD d = [a] := by
      match hd : cellsD d, hl with
      | [a], _ => exact ⟨a, rfl⟩
      | [], h => simp [hd] at h
      | _ :: _ :: _, h => simp [hd] at h
    rw [ha'] at h1 h2 hbel
    exact ⟨a, .one (.v0 h1.1), hbel 0 (by simp), h2⟩
end
end
end Go.Abs

/-
  How the words of AbsCore reckon: rules for simp.
-/
namespace Go.Abs
open Go

attribute [simp] cellsOf imm1 imms low1 lows cell1 cells1 argV argVs fieldAV fieldV indexV indexSV sliceSV lenSV extractV nilcV isShift binI binV binB unV convV eq1 eqs eqcV fillC setC buildV immRows bsliceV bound sliceTok mxFits
  loadV loadIV storeV rowsOf lenV lenMV szOK ownCellV disownV fin1 fins resV condK guardK avoidB minmaxV minmaxGo entBelow entsBelow belows Option.bind_some Option.bind_none

@[simp] theorem pick_true {a b : AV} : pickV (.bool true) a b = some a := rfl
@[simp] theorem pick_false {a b : AV} : pickV (.bool false) a b = some b := rfl
@[simp] theorem pick_bool {c : Bool} {a b : AV} : pickV (.bool c) a b = some (if c then a else b) := by cases c <;> rfl

@[simp] theorem below_int {n : Nat} {k : IntKind} {x : Int} : below n (.int k x) = true := by simp [below]
@[simp] theorem below_bool {n : Nat} {x : Bool} : below n (.bool x) = true := by simp [below]
@[simp] theorem below_str {n : Nat} {x : List UInt8} : below n (.str x) = true := by simp [below]
@[simp] theorem below_ip {n : Nat} {c : List AV} {o : Nat} : below n (.ip c o) = true := by simp [below]
@[simp] theorem below_sl_none {n : Nat} {x : List (List AV)} : below n (.sl x .none) = true := by simp [below]
@[simp] theorem below_sl_full {n : Nat} {x : List (List AV)} : below n (.sl x .full) = true := by simp [below]
@[simp] theorem below_sl_own {n i : Nat} {x : List (List AV)} : below n (.sl x (.own i)) = Nat.blt i n := by simp [below]
@[simp] theorem below_ptr {n i o : Nat} : below n (.ptr i o) = Nat.blt i n := by simp [below]
@[simp] theorem below_osl {n i o l s : Nat} : below n (.osl i o l s) = Nat.blt i n := by simp [below]
@[simp] theorem below_map {n i : Nat} : below n (.map i) = Nat.blt i n := by simp [below]
@[simp] theorem below_nilp {n : Nat} : below n .nilp = true := by simp [below]
theorem belows_all {n : Nat} {l : List AV} : belows n l = l.all (below n) := by
  induction l with
  | nil => rfl
  | cons a l ih => simp [belows, ih]
@[simp] theorem below_agg {n : Nat} {c : List AV} : below n (.agg c) = belows n c := by
  rw [below, belows_all]
  simp [List.all_eq]
@[simp] theorem below_tup {n : Nat} {c : List AV} : below n (.tup c) = belows n c := by
  rw [below, belows_all]
  simp [List.all_eq]

@[simp] theorem take_some {n : Nat} {cs : List AV} {o : Nat} : takeC (some n) cs o = if o + n ≤ cs.length then some (.agg ((cs.drop o).take n)) else none := rfl
@[simp] theorem take_none {cs : List AV} {o : Nat} : takeC none cs o = cs[o]? := rfl

/-- A number that fits is not wrapped. -/
theorem wrap_i64 {x : Int} (h1 : -9223372036854775808 ≤ x) (h2 : x ≤ 9223372036854775807) : IntKind.i64.wrap x = x := by
  unfold IntKind.wrap IntKind.bits IntKind.signed
  simp only [ge_iff_le, Bool.true_and]
  split <;> simp at * <;> omega

@[simp] theorem still_same {S : Store} {v : AV} : still S (v, S) = some v := by simp [still]

end Go.Abs

/-
  Rules for reckoning with the printed functions: results, rounds, rows.
-/
namespace Go.Abs
open Go

/-! ### The order in which simp reckons: the head first, what follows behind it -/

theorem bind_head {α β : Type} {x y : Option α} {f : α → Option β} (h : x = y) : x.bind f = y.bind f := by rw [h]
theorem condK_head {ρ : Type} {c c' : AV} {x y : Option ρ} (h : c = c') : condK c x y = condK c' x y := by rw [h]
theorem guardK_head {ρ : Type} {g g' : AV} {w : Bool} {m s : Option ρ} (h : g = g') : guardK g w m s = guardK g' w m s := by rw [h]
theorem exK_head {κ : Type} {n r : κ} {x : Nat → κ} {e e' : Ex} (h : e = e') : exK n x r e = exK n x r e' := by rw [h]
attribute [congr] bind_head condK_head guardK_head exK_head

/-! ### Numbers -/

attribute [simp] isTup wrap_i64

/-- An integer of 64 bits. -/
def In64 (n : Int) : Prop := -9223372036854775808 ≤ n ∧ n ≤ 9223372036854775807

theorem wrap_in {n : Int} (h : In64 n) : IntKind.i64.wrap n = n := wrap_i64 h.1 h.2

theorem wrap_range (n : Int) : In64 (IntKind.i64.wrap n) := by
  unfold In64 IntKind.wrap IntKind.bits IntKind.signed
  simp only [ge_iff_le, Bool.true_and]
  split <;> simp at * <;> omega

theorem tdiv_bound {x n k : Int} (h1 : -n ≤ x) (h2 : x ≤ n) (hk : 1 ≤ k) : -n ≤ x.tdiv k ∧ x.tdiv k ≤ n := by
  have h0 : 0 ≤ n := by omega
  have a1 := Int.tmod_add_mul_tdiv x k
  by_cases hx : 0 ≤ x
  · have b1 := Int.tdiv_nonneg hx (show 0 ≤ k by omega)
    have b2 := Int.tmod_nonneg k hx
    have b3 : 1 * x.tdiv k ≤ k * x.tdiv k := Int.mul_le_mul_of_nonneg_right hk b1
    omega
  · have b1 : 0 ≤ (-x).tdiv k := Int.tdiv_nonneg (by omega) (show 0 ≤ k by omega)
    rw [Int.neg_tdiv] at b1
    have b2 := Int.tmod_nonneg k (show 0 ≤ -x by omega)
    rw [Int.neg_tmod] at b2
    have b3 : 1 * (-x.tdiv k) ≤ k * (-x.tdiv k) := Int.mul_le_mul_of_nonneg_right hk b1
    simp only [Int.mul_neg, Int.one_mul] at b3
    omega

/-! ### Results -/

@[simp] theorem outV_one {v : AV} : outV [v] = v := rfl
@[simp] theorem outV_two {u v : AV} : outV [u, v] = .tup [u, v] := rfl
@[simp] theorem outV_three {u v w : AV} : outV [u, v, w] = .tup [u, v, w] := rfl
@[simp] theorem outV_four {u v w x : AV} : outV [u, v, w, x] = .tup [u, v, w, x] := rfl
@[simp] theorem outV_nil : outV [] = .tup [] := rfl

/-- What a call hands back, its results known. -/
theorem finish_eq {n : Nat} {vs vs' : List AV} {S : Store} (h : fins n S vs = some vs') (hb : belows n vs' = true) : finish false n vs S = some (outV vs', S.take n) := by
  simp [finish, h, hb]

theorem finish_keep {n : Nat} {vs : List AV} {S : Store} (hb : belows n vs = true) : finish true n vs S = some (outV vs, S.take n) := by
  simp [finish, hb]

theorem finish_up {n : Nat} {vs vs' : List AV} {S : Store} (h : fins n S vs = some vs') (hb : belows n vs' = false) (ho : noOsl n vs = true) : finish false n vs S = some (outV vs', S) := by
  simp [finish, h, hb, ho]

@[simp] theorem finish_int {S : Store} {k : IntKind} {x : Int} : finish false S.length [.int k x] S = some (.int k x, S) := by simp [finish]
@[simp] theorem finish_bool {S : Store} {x : Bool} : finish false S.length [.bool x] S = some (.bool x, S) := by simp [finish]
@[simp] theorem finish_str {S : Store} {x : List UInt8} : finish false S.length [.str x] S = some (.str x, S) := by simp [finish]
@[simp] theorem finish_two {S : Store} {k : IntKind} {x : Int} {b : Bool} : finish false S.length [.int k x, .bool b] S = some (.tup [.int k x, .bool b], S) := by simp [finish]

@[simp] theorem finish_int' {S : Store} {n : Nat} {k : IntKind} {x : Int} : finish false n [.int k x] S = some (.int k x, S.take n) := by simp [finish]
@[simp] theorem finish_bool' {S : Store} {n : Nat} {x : Bool} : finish false n [.bool x] S = some (.bool x, S.take n) := by simp [finish]
@[simp] theorem finish_str' {S : Store} {n : Nat} {x : List UInt8} : finish false n [.str x] S = some (.str x, S.take n) := by simp [finish]

theorem take_set {S : Store} {i n : Nat} {e : Ent} (h : S.length = n) : (S.set i e).take n = S.set i e := by
  rw [List.take_of_length_le]; simp [h]

/-! ### Rounds -/

section
variable {σ τ : Type}

/-- A loop whose rounds are known, up to the one that leaves it. -/
theorem iter_run {step : σ → Option (σ ⊕ τ)} (st : Nat → σ) {r : τ} : ∀ (m k : Nat), (∀ j, k ≤ j → j < k + m → step (st j) = some (.inl (st (j + 1)))) → step (st (k + m)) = some (.inr r) → iter step (st k) = some r
  | 0, k, _, h => by rw [iter_eq, show k = k + 0 from rfl, h]; rfl
  | m + 1, k, hs, h => by
    rw [iter_eq, hs k (Nat.le_refl _) (by omega)]
    exact iter_run st m (k + 1) (fun j h1 h2 => hs j (by omega) (by omega)) (by rw [show k + 1 + m = k + (m + 1) by omega]; exact h)

/-- A loop by an invariant and a measure. -/
theorem iter_inv {step : σ → Option (σ ⊕ τ)} (I : Nat → σ → Prop) (Q : τ → Prop) (h : ∀ k s, I k s → (∃ r, step s = some (.inr r) ∧ Q r) ∨ ∃ s' k', k' < k ∧ step s = some (.inl s') ∧ I k' s') :
    ∀ k s, I k s → ∃ r, iter step s = some r ∧ Q r := by
  intro k
  induction k using Nat.strongRecOn with
  | _ k ih =>
    intro s hs
    rw [iter_eq]
    rcases h k s hs with ⟨r, h1, h2⟩ | ⟨s', k', h1, h2, h3⟩
    · exact ⟨r, by rw [h1]; rfl, h2⟩
    · obtain ⟨r, h4, h5⟩ := ih k' h1 s' h3
      exact ⟨r, by rw [h2]; exact h4, h5⟩

end

/-- A loop that looks for the first k between a and n. -/
theorem iter_scan {τ : Type} {step : List AV × Store → Option ((List AV × Store) ⊕ τ)} {S : Store} (p : Nat → Bool) {rT : Nat → τ} {rE : τ} : ∀ (m a : Nat),
    (∀ k, a ≤ k → k < a + m → step ([i64 (k : Nat)], S) = if p k then some (.inr (rT k)) else some (.inl ([i64 ((k : Int) + 1)], S))) → step ([i64 ((a + m : Nat) : Int)], S) = some (.inr rE) →
    (∃ k, a ≤ k ∧ k < a + m ∧ p k = true ∧ (∀ j, a ≤ j → j < k → p j = false) ∧ iter step ([i64 (a : Nat)], S) = some (rT k)) ∨ ((∀ k, a ≤ k → k < a + m → p k = false) ∧ iter step ([i64 (a : Nat)], S) = some rE)
  | 0, a, _, h => .inr ⟨fun k h1 h2 => by omega, by rw [iter_eq]; simp only [Nat.add_zero] at h; rw [h]; rfl⟩
  | m + 1, a, hs, h => by
    have h0 := hs a (Nat.le_refl _) (by omega)
    cases hp : p a with
    | true =>
      rw [hp] at h0
      exact .inl ⟨a, Nat.le_refl _, by omega, hp, fun j h1 h2 => by omega, by rw [iter_eq, h0]; rfl⟩
    | false =>
      rw [hp] at h0
      have he : iter step ([i64 (a : Nat)], S) = iter step ([i64 ((a + 1 : Nat) : Int)], S) := by rw [iter_eq, h0]; simp
      rw [he]
      rcases iter_scan p m (a + 1) (fun k h1 h2 => hs k (by omega) (by omega)) (by rw [show a + 1 + m = a + (m + 1) by omega]; exact h) with ⟨k, h1, h2, h3, h4, h5⟩ | ⟨h1, h2⟩
      · exact .inl ⟨k, by omega, by omega, h3, fun j h6 h7 => by
          by_cases e : j = a
          · subst e; exact hp
          · exact h4 j (by omega) h7, h5⟩
      · exact .inr ⟨fun k h3 h4 => by
          by_cases e : k = a
          · subst e; exact hp
          · exact h1 k (by omega) (by omega), h2⟩

/-- The store cut back, if it may be. -/
theorem nextS_same {b : Nat} {vs : List AV} {S : Store} : nextS b S.length vs S = some (vs, S) := by
  unfold nextS; split <;> simp

theorem nextS_eq {b n : Nat} {vs : List AV} {S : Store} (h : S.length = n) : nextS b n vs S = some (vs, S) := by
  subst h; exact nextS_same

theorem blt_true {i n : Nat} (h : i < n) : Nat.blt i n = true := by simp [Nat.blt]; omega
theorem blt_false {i n : Nat} (h : n ≤ i) : Nat.blt i n = false := by rw [Bool.eq_false_iff]; simp [Nat.blt]; omega

/-! ### Rows -/

@[simp] theorem rowsOf_sl {xs : List (List AV)} {t : Tok} {S : Store} : rowsOf (.sl xs t) S = some xs := rfl

/-- A slice of numbers. -/
def ints (l : List Int) : List (List AV) := l.map fun n => [i64 n]
/-- A slice of strings. -/
def strs (l : List (List UInt8)) : List (List AV) := l.map fun s => [.str s]

@[simp] theorem ints_length {l : List Int} : (ints l).length = l.length := by simp [ints]
@[simp] theorem strs_length {l : List (List UInt8)} : (strs l).length = l.length := by simp [strs]

theorem at_nat {α : Type} (xs : List α) (i : Nat) : at? xs (i : Int) = xs[i]? := by simp [at?]

theorem at_of {α : Type} {xs : List α} {i : Int} (h0 : 0 ≤ i) (h : i.toNat < xs.length) : at? xs i = some xs[i.toNat] := by simp [at?, h0, h]

theorem at_ints {l : List Int} {v : Int} (h0 : 0 ≤ v) (h : v.toNat < l.length) : at? (ints l) v = some [i64 l[v.toNat]] := by
  rw [at_of h0 (by simpa using h)]; simp [ints]
theorem at_strs {l : List (List UInt8)} {v : Int} (h0 : 0 ≤ v) (h : v.toNat < l.length) : at? (strs l) v = some [.str l[v.toNat]] := by
  rw [at_of h0 (by simpa using h)]; simp [strs]

@[simp] theorem take_set_len {S : Store} {i : Nat} {e : Ent} : (S.set i e).take S.length = S.set i e := take_set rfl
@[simp] theorem take_app_len {S es : Store} : (S ++ es).take S.length = S := by simp
@[simp] theorem take_set_app {S es : Store} {i : Nat} {e : Ent} : (S.set i e ++ es).take S.length = S.set i e := by
  rw [List.take_append_of_le_length (by simp), take_set_len]

/-! ### The first of a list -/

/-- Where the first is that p takes (the length, if there is none). -/
def idxN {α : Type} (p : α → Bool) : List α → Nat
  | [] => 0
  | x :: l => bif p x then 0 else idxN p l + 1

def idxP {α : Type} (p : α → Bool) (l : List α) : Int := if idxN p l < l.length then (idxN p l : Int) else -1

theorem idxN_le {α : Type} (p : α → Bool) (l : List α) : idxN p l ≤ l.length := by
  induction l with
  | nil => simp [idxN]
  | cons x l ih => cases hx : p x <;> simp [idxN, hx]; exact ih

theorem idxN_before {α : Type} (p : α → Bool) (l : List α) {j : Nat} (h : j < idxN p l) (hj : j < l.length) : p l[j] = false := by
  induction l generalizing j with
  | nil => simp at hj
  | cons x l ih =>
    simp only [idxN] at h
    cases hx : p x with
    | true => rw [hx] at h; simp at h
    | false =>
      rw [hx] at h
      cases j with
      | zero => exact hx
      | succ j => exact ih (by simpa using h) (by simpa using hj)

theorem idxN_at {α : Type} (p : α → Bool) (l : List α) (h : idxN p l < l.length) : p l[idxN p l] = true := by
  induction l with
  | nil => simp at h
  | cons x l ih =>
    cases hx : p x with
    | true => simp [idxN, hx]
    | false =>
      simp only [idxN, hx, cond_false, List.length_cons] at h
      have := ih (by omega)
      simpa [idxN, hx] using this

theorem idxN_any {α : Type} (p : α → Bool) (l : List α) : (idxN p l < l.length) ↔ l.any p = true := by
  induction l with
  | nil => simp [idxN]
  | cons x l ih =>
    cases hx : p x with
    | true => simp [idxN, hx]
    | false => simp only [idxN, hx, cond_false, List.length_cons, List.any_cons, Bool.false_or, ← ih]; omega

theorem idxP_any {α : Type} (p : α → Bool) (l : List α) : decide (0 ≤ idxP p l) = l.any p := by
  unfold idxP
  by_cases h : idxN p l < l.length
  · rw [if_pos h, (idxN_any p l).1 h]; simp
  · rw [if_neg h]
    have : l.any p = false := by rw [Bool.eq_false_iff]; exact fun h2 => h ((idxN_any p l).2 h2)
    simp [this]

end Go.Abs

/-
  What the arguments of a law look like: numbers, strings, slices, structs, by their types.
-/
namespace Go.Abs
open Go

/-- A list of fields by their types alone. -/
def FitsT (F : TypeId → List AV → Prop) : List TypeId → List AV → Prop
  | [], cs => cs = []
  | t :: ts, cs => ∃ a b, cs = a ++ b ∧ F t a ∧ FitsT F ts b

theorem fitsF_types {F : TypeId → List AV → Prop} : ∀ {fs : List Field} {cs : List AV}, FitsF F fs cs → FitsT F (fs.map (·.type)) cs
  | [], _, h => h
  | _ :: _, _, ⟨a, b, h1, h2, h3⟩ => ⟨a, b, h1, h2, fitsF_types h3⟩

section
variable {P : Program} {n : Nat} {t : TypeId} {cs : List AV}

theorem fits_int (hu : P.underlying t = some (.int .i64)) (h : Fits P (n + 1) t cs) : ∃ z, cs = [i64 z] ∧ In64 z := by
  unfold Fits at h
  rw [hu] at h
  obtain ⟨z, rfl, hz⟩ := h
  refine ⟨z, rfl, ?_⟩
  simp only [Lit.wf, Bool.and_eq_true, decide_eq_true_eq] at hz
  unfold In64
  have e1 : IntKind.i64.min = -9223372036854775808 := by decide
  have e2 : IntKind.i64.max = 9223372036854775807 := by decide
  rw [e1, e2] at hz
  exact hz

theorem fits_str (hu : P.underlying t = some .string) (h : Fits P (n + 1) t cs) : ∃ s, cs = [.str s] ∧ s.length ≤ 9223372036854775807 := by
  unfold Fits at h
  rw [hu] at h
  exact h

theorem fits_bool (hu : P.underlying t = some .bool) (h : Fits P (n + 1) t cs) : ∃ b, cs = [.bool b] := by
  unfold Fits at h
  rw [hu] at h
  exact h

theorem fits_slice {e : TypeId} (hu : P.underlying t = some (.slice e)) (h : Fits P (n + 1) t cs) : ∃ xs, cs = [.sl xs .none] ∧ xs.length ≤ 9223372036854775807 ∧ ∀ x ∈ xs, Fits P n e x := by
  unfold Fits at h
  rw [hu] at h
  exact h

theorem fits_struct {fs : Array Field} {ts : List TypeId} (hu : P.underlying t = some (.struct fs)) (ht : fs.toList.map (·.type) = ts) (h : Fits P (n + 1) t cs) : FitsT (Fits P n) ts cs := by
  unfold Fits at h
  rw [hu] at h
  rw [← ht]
  exact fitsF_types h

def fieldTypes (P : Program) (t : TypeId) : Option (List TypeId) :=
  match P.underlying t with
  | some (.struct fs) => some (fs.toList.map (·.type))
  | _ => none

theorem fits_fields {ts : List TypeId} (hu : fieldTypes P t = some ts) (h : Fits P (n + 1) t cs) : FitsT (Fits P n) ts cs := by
  unfold fieldTypes at hu
  split at hu
  · rename_i fs h1
    exact fits_struct h1 (Option.some.inj hu) h
  · cases hu

theorem fits_plain {a : AV} (h0 : isAggT P t = false) (h : FitsA P n t a) : Fits P n t [a] := by
  unfold FitsA at h
  rwa [if_neg (by rw [h0]; decide)] at h
theorem fits_agg {a : AV} (h0 : isAggT P t = true) (h : FitsA P n t a) : ∃ cs, a = .agg cs ∧ Fits P n t cs := by
  unfold FitsA at h
  rwa [if_pos h0] at h

theorem fits_array {k : Nat} {e : TypeId} (hu : P.underlying t = some (.array k e)) (h : Fits P (n + 1) t cs) : FitsK (Fits P n e) k cs := by
  unfold Fits at h
  rw [hu] at h
  exact h

theorem fitsK_ints {F : List AV → Prop} (hF : ∀ a, F a → ∃ z, a = [i64 z] ∧ In64 z) : ∀ {k : Nat} {cs : List AV}, FitsK F k cs → ∃ l : List Int, cs = l.map i64 ∧ l.length = k ∧ ∀ z ∈ l, In64 z
  | 0, _, h => ⟨[], h, rfl, by simp⟩
  | k + 1, _, ⟨a, b, h1, h2, h3⟩ => by
    obtain ⟨z, rfl, hz⟩ := hF a h2
    obtain ⟨l, rfl, hl, hm⟩ := fitsK_ints hF h3
    exact ⟨z :: l, h1, by simp [hl], fun w hw => by
      rcases List.mem_cons.1 hw with rfl | hw
      · exact hz
      · exact hm w hw⟩
end

theorem fitsAll1 {P : Program} {n : Nat} {t1 : TypeId} : ∀ {xs : List AV}, FitsAll P n [t1] xs → ∃ a, xs = [a] ∧ FitsA P n t1 a
  | [a], h => ⟨a, rfl, h.1⟩
theorem fitsAll2 {P : Program} {n : Nat} {t1 t2 : TypeId} : ∀ {xs : List AV}, FitsAll P n [t1, t2] xs → ∃ a b, xs = [a, b] ∧ FitsA P n t1 a ∧ FitsA P n t2 b
  | [a, b], h => ⟨a, b, rfl, h.1, h.2.1⟩
theorem fitsAll3 {P : Program} {n : Nat} {t1 t2 t3 : TypeId} : ∀ {xs : List AV}, FitsAll P n [t1, t2, t3] xs → ∃ a b c, xs = [a, b, c] ∧ FitsA P n t1 a ∧ FitsA P n t2 b ∧ FitsA P n t3 c
  | [a, b, c], h => ⟨a, b, c, rfl, h.1, h.2.1, h.2.2.1⟩
theorem fitsAll4 {P : Program} {n : Nat} {t1 t2 t3 t4 : TypeId} : ∀ {xs : List AV}, FitsAll P n [t1, t2, t3, t4] xs → ∃ a b c d, xs = [a, b, c, d] ∧ FitsA P n t1 a ∧ FitsA P n t2 b ∧ FitsA P n t3 c ∧ FitsA P n t4 d
  | [a, b, c, d], h => ⟨a, b, c, d, rfl, h.1, h.2.1, h.2.2.1, h.2.2.2.1⟩

/-- A list of rows, each of a shape. -/
theorem rows_of {α : Type} {f : α → List AV} {P : α → Prop} : ∀ {xs : List (List AV)}, (∀ x ∈ xs, ∃ a, x = f a ∧ P a) → ∃ l : List α, xs = l.map f ∧ ∀ a ∈ l, P a
  | [], _ => ⟨[], rfl, by simp⟩
  | x :: xs, h => by
    obtain ⟨a, rfl, ha⟩ := h x (by simp)
    obtain ⟨l, rfl, hl⟩ := rows_of (xs := xs) fun y hy => h y (by simp [hy])
    exact ⟨a :: l, rfl, fun b hb => by
      rcases List.mem_cons.1 hb with rfl | hb
      · exact ha
      · exact hl b hb⟩
end Go.Abs
