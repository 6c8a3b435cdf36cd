/-
  Texts of this claim: TlTimelineCalmLaw.
-/
import Derived.Test.YtlilahgndpdkfaaDoorOwn23
import Derived.Test.YtlilahgndpdkfaaDoorOwn34
set_option linter.all false
/-
  TimelineCalm: the law answers true, whatever its arguments.
-/
namespace Go.Proofs.YtlilahgndpdkfaaDoor
open Go Go.Abs
set_option maxRecDepth 100000

section
variable {S : Store} {i : Nat} {L : List Int} {a : Nat}

theorem ctl_put0 {b o : Nat} {rest : Store} {k k' : Ctl} (hb : b ≤ S.length) (hk : k.Fit) (ho : o < 41) {v : Int} (h : (ctlC k).set o (i64 v) = ctlC k') :
    storeV b 1 (.ptr S.length o) (i64 v) (Sr S i L a (.obj (ctlC k) :: rest)) = some (Sr S i L a (.obj (ctlC k') :: rest)) := by
  have := Stt.storeB (S := S) (i := i) (e := srcE L a) (es := .obj (ctlC k) :: rest) (b := b) (k := 0) (o := o) (n := 1) (v := i64 v) (cs := ctlC k) (vs := [i64 v]) (by omega) rfl rfl rfl (by rw [ctl_length hk]; omega)
  rw [Nat.add_zero] at this
  rw [this]
  simp only [setC, h, List.set_cons_zero]

theorem calm_L1 {n0 c : Nat} {rest : Store} {k : Ctl} {n : Int} {t5 : AV} (hn : n0 ≤ S.length) (hk : k.Fit) (hc : c < 12) :
    F5_L1 call n0 t5 (i64 n) (.ptr S.length 0) (i64 (c : Int)) (Sr S i L a (.obj (ctlC k) :: rest)) = some (.inl ([i64 ((c + 1 : Nat) : Int)], Sr S i L a (.obj (ctlC (Ctl.step k c n)) :: rest))) := by
  have hlt : (c : Int) ≤ 11 := by omega
  have x1 := idx12 S.length 1 hc
  have st := ctl_put0 (S := S) (i := i) (L := L) (a := a) (b := n0) (rest := rest) hn hk (by omega) (ctl_step hk hc n)
  have w1 : IntKind.i64.wrap ((c : Int) + 1) = ((c + 1 : Nat) : Int) := by rw [wrap_in (by unfold In64; omega)]; omega
  have nx : ∀ vs, nextS n0 (S.length + (rest.length + 1)) vs (Sr S i L a (.obj (ctlC (Ctl.step k c n)) :: rest)) = some (vs, _) := fun vs => nextS_eq (by rw [Stt.length]; simp)
  unfold F5_L1
  simp only [Stt.length, List.length_cons]
  repeat (first
    | rfl
    | refine cond_t (by rfl) ?_
    | refine cond_f (by rfl) ?_
    | refine ite_of (by first | rfl | assumption) ?_
    | refine bind_of (by simp [-loadV, -storeV, -Int.natCast_add, loadV_ip, hlt, x1, st, w1, nx] <;> rfl) ?_)

/-- Parameters whose steps of all elements are n. -/
structure StepN (n : Int) (c : Nat) (k : Ctl) : Prop where
  fit : k.Fit
  steps : possP k.steps = true
  at_ : ∀ j, 1 ≤ j → j < c → k.steps.getD j 0 = n
  spikes : k.spikes = List.replicate 12 0

theorem calm_L1s {n0 : Nat} {rest : Store} {n : Int} {t5 : AV} (hn : n0 ≤ S.length) (h0 : 0 ≤ n) (h1 : n ≤ 10000) :
    ∃ k, StepN n 12 k ∧ iter (fun s => F5_L1 call n0 t5 (i64 n) (.ptr S.length 0) (s.1.getD 0 .u) s.2) ([i64 1], Sr S i L a (.obj (List.replicate 41 (i64 0)) :: rest)) = some (.exit 0, [], Sr S i L a (.obj (ctlC k) :: rest)) := by
  let k0 : Ctl := ⟨0, List.replicate 12 0, List.replicate 12 0, List.replicate 16 0⟩
  obtain ⟨r, h2, k, h3, rfl⟩ := iter_to (step := fun s => F5_L1 call n0 t5 (i64 n) (.ptr S.length 0) (s.1.getD 0 .u) s.2)
    (fun c s => ∃ k, StepN n (c + 1) k ∧ s = ([i64 ((c + 1 : Nat) : Int)], Sr S i L a (.obj (ctlC k) :: rest)))
    (fun r => ∃ k, StepN n 12 k ∧ r = (.exit 0, [], Sr S i L a (.obj (ctlC k) :: rest))) 11
    (fun c s hc ⟨k, hk, hs⟩ => by
      subst hs
      refine ⟨_, calm_L1 hn hk.fit (by omega), Ctl.step k (c + 1) n, ⟨Ctl.step_fit hk.fit _ _, poss_set hk.steps h0 h1, fun j j1 j2 => ?_, hk.spikes⟩, rfl⟩
      have hl := hk.fit.steps
      simp only [Ctl.step, List.getD_eq_getElem?_getD]
      by_cases e : c + 1 = j
      · subst e
        rw [List.getElem?_set_self (by omega)]; rfl
      · rw [List.getElem?_set_ne e, ← List.getD_eq_getElem?_getD]
        exact hk.at_ j j1 (by omega))
    (fun s ⟨k, hk, hs⟩ => by
      subst hs
      refine ⟨_, ?_, k, hk, rfl⟩
      unfold F5_L1
      simp) 0 _ (Nat.zero_le _) ⟨k0, ⟨⟨rfl, rfl, rfl⟩, by show possP (List.replicate 12 0) = true; decide, fun j j1 j2 => by omega, rfl⟩, rfl⟩
  exact ⟨k, h3, h2⟩

theorem quo60 {d : Int} (h1 : 1 ≤ d) (h2 : d ≤ 200) : (d + 59).tdiv 60 = 1 ∨ (d + 59).tdiv 60 = 2 ∨ (d + 59).tdiv 60 = 3 ∨ (d + 59).tdiv 60 = 4 := by
  rw [Int.tdiv_eq_ediv_of_nonneg (by omega)]
  omega

set_option maxHeartbeats 4000000 in
theorem calm_L2 {n0 c : Nat} {k : Ctl} {n v m : Int} {ps : List (Int × Int)} {t7 : AV} (hs : Sc S i L a) (hn0 : n0 ≤ S.length) (hn : 1 ≤ n) (hn2 : n ≤ 100) (hp : CalmOk n ps) (hch : chainN n (ps ++ [(m, v)])) (hv1 : 9000 ≤ v) (hv2 : v ≤ 10900) (hm0 : 0 ≤ m) (hm : m ≤ 50000000) (hlen : ps.length ≤ 900) (hc : c ≤ 100) :
    Ev (F5_L2 call n0 (.ptr i 0) (i64 n) t7 (.sl (reps (ps.map calmR)) (.own (S.length + 1))) (i64 v) (i64 m) (i64 (c : Int)) (Sr S i L a [.obj (ctlC k), .tail ps.length 8])) fun x => match x with
      | .inr q => c = 0 ∧ q = (.exit 2, [.sl (reps (ps.map calmR)) (.own (S.length + 1))], Sr S i L a [.obj (ctlC k), .tail ps.length 8])
      | .inl s => ∃ (a c' : Nat) (v' m' : Int), c = c' + 1 ∧ Sc S i L a ∧ CalmOk n (ps ++ [(m, v)]) ∧ chainN n (ps ++ [(m, v)] ++ [(m', v')]) ∧ 9000 ≤ v' ∧ v' ≤ 10900 ∧ m ≤ m' ∧ m' ≤ m + 200 ∧
          s = ([.sl (reps ((ps ++ [(m, v)]).map calmR)) (.own (S.length + 1)), i64 v', i64 m', i64 (c' : Int)], Sr S i L a [.obj (ctlC k), .tail (ps ++ [(m, v)]).length 8]) := by
  unfold F5_L2
  simp only [Stt.length, List.length_cons, List.length_nil]
  by_cases h : (0 : Int) < c
  · obtain ⟨c', rfl⟩ : ∃ c', c = c' + 1 := ⟨c - 1, by omega⟩
    have ap := row_app (S := S) (i := i) (L := L) (a := a) (k := 1) (es := [.obj (ctlC k), .tail ps.length 8]) (ys := ps.map calmR) (r := calmR (m, v)) (by simp) (by simp; omega)
    have er : repR (calmR (m, v)) = [i64 1, .str [65, 76, 80, 72, 65], i64 m, i64 0, i64 0, i64 0, i64 0, .sl [[i64 1, i64 v], [i64 2, i64 2800]] .none] := rfl
    rw [er] at ap
    have e1 : (ps.map calmR) ++ [calmR (m, v)] = (ps ++ [(m, v)]).map calmR := by simp
    rw [e1] at ap
    simp only [List.set_cons_succ, List.set_cons_zero, List.length_map] at ap
    refine Ev.to (a := .bool true) (by simp) (Ev.t rfl ?_)
    refine Ev.to (a := .agg [i64 1, i64 v]) rfl (Ev.to (a := .agg [i64 2, i64 2800]) rfl (Ev.to (a := .sl [[i64 1, i64 v], [i64 2, i64 2800]] .full) rfl ?_))
    refine Ev.to (a := .agg [i64 1, .str [65, 76, 80, 72, 65], i64 m, i64 0, i64 0, i64 0, i64 0, .sl [[i64 1, i64 v], [i64 2, i64 2800]] .full]) rfl ?_
    refine Ev.to (a := .sl [[i64 1, .str [65, 76, 80, 72, 65], i64 m, i64 0, i64 0, i64 0, i64 0, .sl [[i64 1, i64 v], [i64 2, i64 2800]] .none]] .full) rfl ?_
    refine Ev.to ap (Ev.to rfl (Ev.to rfl ?_))
    refine Ev.bind (e_Range (by assumption) (by omega) (by omega) (by omega)) ?_
    rintro _ ⟨d, a1, k1, d1, d2, rfl⟩
    try dsimp only
    have w0 : IntKind.i64.wrap (-n) = -n := wrap_in (by unfold In64; omega)
    refine Ev.to (a := i64 (m + d)) (by simp (disch := omega)) (Ev.to (a := i64 (-n)) (by simp [unV, w0]) (Ev.to rfl ?_))
    refine Ev.bind (e_Range (by assumption) (by omega) (by omega) (by omega)) ?_
    rintro _ ⟨e, a2, k2, e1, e2, rfl⟩
    try dsimp only
    refine Ev.to (a := i64 (d + 59)) (by simp (disch := omega)) ?_
    have hq := quo60 d1 d2
    generalize hqq : (d + 59).tdiv 60 = q at *
    have hqw : IntKind.i64.wrap q = q := wrap_in (by unfold In64; omega)
    have hb : -400 ≤ e * q ∧ e * q ≤ 400 ∧ - (n * q) ≤ e * q ∧ e * q ≤ n * q := by
      rcases hq with rfl | rfl | rfl | rfl <;> omega
    generalize hy : e * q = y at *
    have hnear : ∀ w, w = max2 9000 (min2 10900 (v + y)) → near n (m, v) (m + d, w) := fun w hw => by
      refine ⟨by simp only; omega, ?_⟩
      simp only
      rw [show m + d - m + 60 - 1 = d + 59 by omega, hqq]
      subst hw
      unfold max2 min2
      split <;> split <;> (try split at *) <;> (try split at *) <;> omega
    have hwb : 9000 ≤ max2 9000 (min2 10900 (v + y)) ∧ max2 9000 (min2 10900 (v + y)) ≤ 10900 := by unfold max2 min2; split <;> split at * <;> omega
    have wk : IntKind.i64.wrap ((((c' + 1 : Nat) : Int)) - 1) = (c' : Int) := by rw [wrap_in (by unfold In64; omega)]; omega
    have nx : ∀ vs, nextS n0 (S.length + (0 + 1 + 1)) vs (Sr S i L a2 [.obj (ctlC k), .tail (ps.length + 1) 8]) = some (vs, _) := fun vs => nextS_eq (by rw [Stt.length]; rfl)
    refine Ev.to (a := i64 q) (by simp [hqq, hqw]) (Ev.to (a := i64 y) (by simp (disch := omega) [hy]) (Ev.to (a := i64 (v + y)) (by simp (disch := omega)) ?_))
    refine Ev.to (a := i64 (min2 10900 (v + y))) rfl (Ev.to (a := i64 (max2 9000 (min2 10900 (v + y)))) rfl (Ev.to (a := i64 (c' : Int)) (by simp only [binV, binI, isShift, cond_false, if_true, wk]) (Ev.to (nx _) ?_)))
    refine .mk ?_
    have hok : CalmOk n (ps ++ [(m, v)]) := ⟨hch, fun p hp' => by
      rcases List.mem_append.1 hp' with hp' | hp'
      · exact hp.mem p hp'
      · obtain rfl := List.mem_singleton.1 hp'
        exact ⟨hm0, by simp only; omega, by simp only; omega, by simp only; omega⟩⟩
    exact ⟨a2, c', _, m + d, rfl, k2, hok, chainN_snoc (hnear _ rfl) hch, hwb.1, hwb.2, by omega, by omega, by simp⟩
  · obtain rfl : c = 0 := by omega
    refine Ev.to (a := .bool false) (by simp) (Ev.f rfl ?_)
    exact .mk ⟨rfl, rfl⟩

theorem calm_L3 {n0 c : Nat} {rest : Store} {k : Ctl} {t9 : AV} (hs : Sc S i L a) (hn : n0 ≤ S.length) (hk : k.Fit) (hp : possP k.spikes = true) (hc : c ≤ 12) :
    Ev (F5_L3 call n0 (.ptr i 0) (.ptr S.length 0) t9 (i64 (c : Int)) (Sr S i L a (.obj (ctlC k) :: rest))) fun x => match x with
      | .inr q => q = (.exit 4, [], Sr S i L a (.obj (ctlC k) :: rest))
      | .inl s => c + 1 ≤ 12 ∧ ∃ (a : Nat) (k' : Ctl), Sc S i L a ∧ k'.Fit ∧ k'.steps = k.steps ∧ possP k'.spikes = true ∧ s = ([i64 ((c + 1 : Nat) : Int)], Sr S i L a (.obj (ctlC k') :: rest)) := by
  unfold F5_L3
  simp only [Stt.length, List.length_cons]
  by_cases h : (c : Int) ≤ 11
  · have hc : c < 12 := by omega
    have x1 := idx12 S.length 13 hc
    have w1 : IntKind.i64.wrap ((c : Int) + 1) = ((c + 1 : Nat) : Int) := by rw [wrap_in (by unfold In64; omega)]; omega
    refine Ev.to (a := .bool true) (by simp [h]) (Ev.t rfl (Ev.to rfl ?_))
    refine Ev.bind (e_Range (by assumption) (by omega) (by omega) (by omega)) ?_
    rintro _ ⟨v, a1, k1, v1, v2, rfl⟩
    try dsimp only
    have st := ctl_put0 (S := S) (i := i) (L := L) (a := a1) (b := n0) (rest := rest) hn hk (by omega) (ctl_spike hk hc v)
    have nx : ∀ vs, nextS n0 (S.length + (rest.length + 1)) vs (Sr S i L a1 (.obj (ctlC (Ctl.spike k c v)) :: rest)) = some (vs, _) := fun vs => nextS_eq (by rw [Stt.length]; simp)
    refine Ev.to rfl (Ev.to x1 (Ev.to st (Ev.to (a := i64 ((c + 1 : Nat) : Int)) (by simp [w1]) (Ev.to (nx _) ?_))))
    exact .mk ⟨by omega, a1, _, k1, Ctl.spike_fit hk _ _, rfl, poss_set hp (by omega) (by omega), rfl⟩
  · refine Ev.to (a := .bool false) (by simp [h]) (Ev.f rfl ?_)
    exact .mk rfl

theorem calm_L4 {n0 j : Nat} {F : List (Int × Int)} {t20 : AV} {u : Tok} {S : Store} (hj : j < F.length) (hF : F.length ≤ 1000000) (h1 : (F[j]).2 = 1) :
    F5_L4 call n0 t20 (.sl (flagRows F) u) (i64 F.length) (i64 (j : Int)) S = some (.inl ([i64 ((j + 1 : Nat) : Int)], S)) := by
  have hlt : (j : Int) < (F.length : Int) := by omega
  have hix : indexAV 3 none (.sl (flagRows F) u) (.int .i64 (j : Int)) = some (.ip [i64 (F[j]).1, i64 1, i64 4] 0) := by simp [indexAV, at_nat, flagRows, hj, flagR, h1]
  have w1 : IntKind.i64.wrap ((j : Int) + 1) = ((j + 1 : Nat) : Int) := by rw [wrap_in (by unfold In64; omega)]; omega
  unfold F5_L4
  repeat (first
    | rfl
    | refine cond_t (by rfl) ?_
    | refine cond_f (by rfl) ?_
    | refine ite_of (by first | rfl | assumption) ?_
    | refine bind_of (by simp [-loadV, -storeV, -Int.natCast_add, loadV_ip, hlt, hix, w1, nextS_same] <;> rfl) ?_)

theorem calm_L4s {n0 : Nat} {F : List (Int × Int)} {t20 : AV} {u : Tok} {S : Store} (hF : F.length ≤ 1000000) (h1 : ∀ f ∈ F, f.2 = 1) :
    iter (fun s => F5_L4 call n0 t20 (.sl (flagRows F) u) (i64 F.length) (s.1.getD 0 .u) s.2) ([i64 0], S) = some (.exit 6, [.u], S) := by
  have key := iter_run (step := fun s => F5_L4 call n0 t20 (.sl (flagRows F) u) (i64 F.length) (s.1.getD 0 .u) s.2) (fun k => ([i64 (k : Nat)], S)) (r := (Ex.exit 6, [.u], S)) F.length 0
    (fun k _ hk => calm_L4 (by omega) hF (h1 _ (List.getElem_mem _))) (by unfold F5_L4; simp)
  exact key
end

def ctlZ : Ctl := ⟨0, List.replicate 12 0, List.replicate 12 0, List.replicate 16 0⟩

theorem calm_few' {n : Int} {ps : List (Int × Int)} (hl : ps.length ≤ 900) : Few (ps.map calmR) := ⟨by simp; omega, fun r hr => by
  obtain ⟨p, _, rfl⟩ := List.mem_map.1 hr
  simp [calmR]⟩

set_option maxHeartbeats 8000000 in
theorem calm_law {step : Int} {L : List Int} (hL : ∀ n ∈ L, In64 n) :
    Ev (call 5 [.sl (ints L) .none, i64 step] []) fun r => r.1 = .bool true := by
  rw [k5]
  unfold F5
  obtain ⟨S1, L', hN, hs, hlen1⟩ := law_New L hL
  refine Ev.to rfl (Ev.to hN ?_)
  refine Ev.to rfl ?_
  refine Ev.bind (e_Mod (by omega) (by omega)) ?_
  rintro _ ⟨st, c1, c2, rfl⟩
  try dsimp only
  have hw : IntKind.i64.wrap (1 + st) = 1 + st := wrap_in (by unfold In64; omega)
  refine Ev.to (a := i64 (1 + st)) (by simp [hw]) ?_
  simp only [Stt.length, Stt.app, List.length_nil, Nat.add_zero, List.nil_append]
  obtain ⟨k1, hk1, l1⟩ := calm_L1s (S := S1) (i := 0) (L := L') (a := 0) (n0 := 0) (rest := []) (n := 1 + st) (t5 := .ptr 0 0) (by omega) (by omega) (by omega)
  refine Ev.to l1 ?_
  simp only [exK_exit, Nat.beq_refl, cond_true]
  have ow : ownV 8 (.sl [] .full) (Sr S1 0 L' 0 [.obj (ctlC k1)]) = some (.sl [] (.own (S1.length + 1)), Sr S1 0 L' 0 [.obj (ctlC k1), .tail 0 8]) := by
    simp only [ownV, szOK, cond_true, Stt.length, Stt.app, List.length_nil, List.length_cons, Nat.zero_add, List.cons_append, List.nil_append]
  refine Ev.to ow (Ev.to rfl ?_)
  refine Ev.bind ((g_Minute 0).at (by assumption)) ?_
  rintro _ ⟨v1, a1, b1, q1, rfl⟩
  try dsimp only
  obtain ⟨m, rfl, m1, m2⟩ := q1
  have hm2 : 0 ≤ m.tdiv 2 ∧ m.tdiv 2 ≤ 26297999 := by rw [Int.tdiv_eq_ediv_of_nonneg m1]; omega
  have hmw : IntKind.i64.wrap (m.tdiv 2) = m.tdiv 2 := wrap_in (by unfold In64; omega)
  refine Ev.to (a := i64 (m.tdiv 2)) (by simp [hmw]) (Ev.to rfl ?_)
  generalize m.tdiv 2 = m0 at *
  refine Ev.bind (e_Range (by assumption) (by omega) (by omega) (by omega)) ?_
  rintro _ ⟨cnt, a2, b2, n1, n2, rfl⟩
  try dsimp only
  obtain ⟨r, l2, ps, aL, hps, hok, hsc, rfl⟩ := Ev.iter (step := fun s => F5_L2 call 0 (.ptr 0 0) (i64 (1 + st)) (.ptr S1.length 0) (s.1.getD 0 .u) (s.1.getD 1 .u) (s.1.getD 2 .u) (s.1.getD 3 .u) s.2)
    (Q := fun r => ∃ (ps : List (Int × Int)) (a : Nat), ps.length ≤ 900 ∧ CalmOk (1 + st) ps ∧ Sc S1 0 L' a ∧ r = (.exit 2, [.sl (reps (ps.map calmR)) (.own (S1.length + 1))], Sr S1 0 L' a [.obj (ctlC k1), .tail ps.length 8]))
    (fun c s => ∃ (ps : List (Int × Int)) (a : Nat) (v m : Int), ps.length + c ≤ 12 ∧ CalmOk (1 + st) ps ∧ Sc S1 0 L' a ∧ chainN (1 + st) (ps ++ [(m, v)]) ∧ 9000 ≤ v ∧ v ≤ 10900 ∧ 0 ≤ m ∧ m ≤ 26297999 + 200 * ps.length ∧ s = ([.sl (reps (ps.map calmR)) (.own (S1.length + 1)), i64 v, i64 m, i64 (c : Int)], Sr S1 0 L' a [.obj (ctlC k1), .tail ps.length 8]))
    (fun c s ⟨ps, a, v, m, hl, hok, hsc, hch, hv1, hv2, hm1, hm2, e⟩ => by
      subst e
      refine (calm_L2 (k := k1) (t7 := .ptr S1.length 0) (c := c) hsc (by omega) (by omega) (by omega) hok hch hv1 hv2 hm1 (by omega) (by omega) (by omega)).mono fun x hx => ?_
      cases x with
      | inr q => exact ⟨ps, a, by omega, hok, hsc, hx.2⟩
      | inl s' =>
        obtain ⟨a', c', v', m', g1, g2, g3, g4, g5, g6, g7, g8, g9⟩ := hx
        refine ⟨c', by omega, ps ++ [(m, v)], a', v', m', by simp; omega, g3, g2, g4, g5, g6, by omega, ?_, g9⟩
        simp only [List.length_append, List.length_singleton]
        omega)
    (k := cnt.toNat) (s := ([.sl [] (.own (S1.length + 1)), .int .i64 10000, i64 m0, i64 cnt], Sr S1 0 L' a2 [.obj (ctlC k1), .tail 0 8])) ⟨[], a2, 10000, m0, by simp; omega, ⟨trivial, by simp⟩, b2, trivial, by omega, by omega, hm2.1, by simp; omega, by
      have : ((cnt.toNat : Nat) : Int) = cnt := by omega
      simp only [this]; rfl⟩
  refine Ev.to l2 ?_
  simp only [exK_exit, Nat.beq_refl, cond_true]
  have hfit := hk1.fit
  have hsp : possP k1.spikes = true := by rw [hk1.spikes]; decide
  have hfew := calm_few' (n := 1 + st) (ps := ps) hps
  have hg := calm_good hok
  have hz : ctlZ.Fit := ⟨rfl, rfl, rfl⟩
  obtain ⟨u1, C1⟩ := s_Check (t := .own (S1.length + 1)) hfit hfew (Sr S1 0 L' aL [.obj (ctlC k1), .tail ps.length 8])
  obtain ⟨u2, C2⟩ := s_Check (t := .own (S1.length + 1)) hz hfew (Sr S1 0 L' aL [.obj (ctlC k1), .tail ps.length 8])
  have he1 := examP_ok hg hk1.steps hsp
  have he2 := examP_ok (k := ctlZ) hg (by decide) (by decide)
  have s1 : stepOf k1 1 = 1 + st := hk1.at_ 1 (by omega) (by omega)
  have s2 : stepOf k1 2 = 1 + st := hk1.at_ 2 (by omega) (by omega)
  have p1 : spikeOf k1 1 ≤ 0 := by unfold spikeOf; rw [hk1.spikes]; decide
  have f1 : flagsP (ps.map calmR) k1 = [] := by
    unfold flagsP
    rw [if_pos he1]
    exact calm_none hok k1 (by omega) (.inr s1) (.inr s2) p1
  have f2 : flagsP (ps.map calmR) ctlZ = [] := by
    unfold flagsP
    rw [if_pos he2]
    exact calm_none hok ctlZ (by omega) (.inl (by decide)) (.inl (by decide)) (by decide)
  rw [f1, he1] at C1
  rw [f2, he2] at C2
  have ld1 := Stt.loadA0 (S := S1) (i := 0) (e := srcE L' aL) (es := [.obj (ctlC k1), .tail ps.length 8]) (n := 41) rfl (ctl_length hfit)
  have him := imms_ctl k1
  have hz2 : buildV [(.int .i64 0), (.int .i64 0), (.int .i64 0), (.int .i64 0), (.int .i64 0), (.int .i64 0), (.int .i64 0), (.int .i64 0), (.int .i64 0), (.int .i64 0), (.int .i64 0), (.int .i64 0), (.int .i64 0), (.int .i64 0), (.int .i64 0), (.int .i64 0), (.int .i64 0), (.int .i64 0), (.int .i64 0), (.int .i64 0), (.int .i64 0), (.int .i64 0), (.int .i64 0), (.int .i64 0), (.int .i64 0), (.int .i64 0), (.int .i64 0), (.int .i64 0), (.int .i64 0), (.int .i64 0), (.int .i64 0), (.int .i64 0), (.int .i64 0), (.int .i64 0), (.int .i64 0), (.int .i64 0), (.int .i64 0), (.int .i64 0), (.int .i64 0), (.int .i64 0), (.int .i64 0)] [] = some (.agg (ctlC ctlZ)) := rfl
  have him2 := imms_ctl ctlZ
  refine Ev.to ld1 (Ev.to (a := [.sl (reps (ps.map calmR)) (.own (S1.length + 1)), .agg (ctlC k1)]) (by simp [him]) (Ev.to C1 (Ev.to rfl (Ev.to rfl ?_))))
  refine Ev.to hz2 (Ev.to (a := [.sl (reps (ps.map calmR)) (.own (S1.length + 1)), .agg (ctlC ctlZ)]) (by simp [him2]) (Ev.to C2 (Ev.to rfl (Ev.to rfl ?_))))
  simp only [flagRows, List.map_nil]
  clear C1 C2 ld1 hz2 him him2
  repeat (first
    | refine Ev.fin (by simp [] <;> rfl) (by simp []) ?_
    | refine Ev.t (by rfl) ?_
    | refine Ev.f (by rfl) ?_
    | refine Ev.ite (by first | rfl | assumption) ?_
    | refine Ev.to (by simp (disch := omega) [-loadV, -storeV, -Int.natCast_add, loadV_ip] <;> rfl) ?_
    | refine Ev.to (by simp [-loadV, -storeV, -Int.natCast_add, loadV_ip] <;> rfl) ?_)
  -- the spikes
  refine Ev.bind (Ev.iter (Q := fun r => ∃ (a : Nat) (k : Ctl), Sc S1 0 L' a ∧ k.Fit ∧ k.steps = k1.steps ∧ possP k.spikes = true ∧ r = (.exit 4, [], Sr S1 0 L' a [.obj (ctlC k), .tail ps.length 8]))
    (fun m s => ∃ (c a : Nat) (k : Ctl), c + m = 12 ∧ Sc S1 0 L' a ∧ k.Fit ∧ k.steps = k1.steps ∧ possP k.spikes = true ∧ s = ([i64 (c : Int)], Sr S1 0 L' a [.obj (ctlC k), .tail ps.length 8]))
    (fun m s ⟨c, a, k, hc, h1, h2, h3, h4, e⟩ => by
      subst e
      refine (calm_L3 (t9 := .sl (reps (ps.map calmR)) (.own (S1.length + 1))) h1 (Nat.zero_le _) h2 h4 (by omega)).mono fun x hx => ?_
      cases x with
      | inr q => exact ⟨a, k, h1, h2, h3, h4, hx⟩
      | inl s' =>
        obtain ⟨g1, a', k', g2, g3, g4, g5, g6⟩ := hx
        exact ⟨m - 1, by omega, c + 1, a', k', by omega, g2, g3, by rw [g4, h3], g5, g6⟩)
    (k := 11) ⟨1, aL, k1, rfl, hsc, hfit, rfl, hsp, rfl⟩) ?_
  rintro _ ⟨a5, k3, b5, hf3, hst3, hsp3, rfl⟩
  simp only [exK_exit, Nat.beq_refl, cond_true]
  obtain ⟨u3, C3⟩ := s_Check (t := .own (S1.length + 1)) hf3 hfew (Sr S1 0 L' a5 [.obj (ctlC k3), .tail ps.length 8])
  have he3 := examP_ok (k := k3) hg (by rw [hst3]; exact hk1.steps) hsp3
  have f3 : flagsP (ps.map calmR) k3 = refFlags (ps.map calmR) k3 (ps.map calmR).length := by unfold flagsP; rw [if_pos he3]
  have hF := flagsP_few (k := k3) hfew
  rw [f3] at hF
  rw [f3, he3] at C3
  have hpr := calm_pressure hok k3 (by omega) (.inr (by unfold stepOf; rw [hst3]; exact s1)) (.inr (by unfold stepOf; rw [hst3]; exact s2))
  have ld3 := Stt.loadA0 (S := S1) (i := 0) (e := srcE L' a5) (es := [.obj (ctlC k3), .tail ps.length 8]) (n := 41) rfl (ctl_length hf3)
  have him3 := imms_ctl k3
  generalize refFlags (ps.map calmR) k3 (ps.map calmR).length = F at *
  have l4 := calm_L4s (n0 := 0) (t20 := i64 0) (u := u3) (S := Sr S1 0 L' a5 [.obj (ctlC k3), .tail ps.length 8]) hF hpr
  have hlF : lenV (.sl (flagRows F) u3) = some (i64 F.length) := by simp [flagRows]
  refine Ev.to ld3 (Ev.to (a := [.sl (reps (ps.map calmR)) (.own (S1.length + 1)), .agg (ctlC k3)]) (by simp [him3]) (Ev.to C3 (Ev.to rfl (Ev.to rfl ?_))))
  refine Ev.to hlF (Ev.to l4 ?_)
  simp only [exK_exit, Nat.beq_refl, cond_true]
  have aw := s_awake (Sr S1 0 L' a5 [.obj (ctlC k3), .tail ps.length 8])
  repeat (first
    | refine Ev.fin (by simp [aw] <;> rfl) (by simp [aw]) ?_
    | refine Ev.t (by rfl) ?_
    | refine Ev.f (by rfl) ?_
    | refine Ev.ite (by first | rfl | assumption) ?_
    | refine Ev.to (by simp (disch := omega) [-loadV, -storeV, -Int.natCast_add, loadV_ip, aw] <;> rfl) ?_
    | refine Ev.to (by simp [-loadV, -storeV, -Int.natCast_add, loadV_ip, aw] <;> rfl) ?_)
  exact ⟨(.bool true, (Sr S1 0 L' a5 [.obj (ctlC k3), .tail ps.length 8]).take 0), by simp, rfl⟩

theorem timelineCalm_true (xs : List AV) (h : FitsAll Tryd.prog 8 Tryd.f5.params.toList xs) : ∃ S', call 5 xs [] = some (.bool true, S') := by
  have hp : Tryd.f5.params.toList = [26, 3] := by kernel_rfl
  rw [hp] at h
  obtain ⟨x1, x2, rfl, h1, h2⟩ := fitsAll2 h
  obtain ⟨L, rfl, _, hL⟩ := arg_ints h1
  obtain ⟨code, rfl, _⟩ := arg_int h2
  obtain ⟨⟨v, S'⟩, e, rfl⟩ := calm_law (step := code) hL
  exact ⟨S', e⟩
end Go.Proofs.YtlilahgndpdkfaaDoor
