/-
  Texts of this claim: TlLawAns, TlTimelineAnswersLaw.
-/
import Derived.Test.YtlilahgndpdkfaaDoorOwn23
import Derived.Test.YtlilahgndpdkfaaDoorOwn35
set_option linter.all false
/-
  TimelineAnswers: what the law itself comes to: true.
-/
namespace Go.Proofs.YtlilahgndpdkfaaDoor
open Go Go.Abs

section
variable {S : Store}

set_option maxHeartbeats 2000000 in
theorem an_L2 {z : List Rep} {t : Tok} (hz : Few z) {cs : List Ctl} (hc : ∀ c ∈ cs, c.Fit) {j n0 : Nat} {t74 : AV} (h : j < cs.length) (hl : cs.length ≤ 1000) :
    F3_L2 call n0 (.sl (reps z) t) t74 (.sl (cs.map ctlC) .full) (i64 cs.length) (i64 (j : Int)) S = some (.inl ([i64 ((j + 1 : Nat) : Int)], S)) := by
  have hf := hc _ (List.getElem_mem h)
  obtain ⟨u1, c1⟩ := s_Check (t := t) hf hz S
  obtain ⟨u2, c2⟩ := r_Check (t := t) hf hz S
  have fl := r_Flags (a := flagsP z cs[j]) (b := flagsP z cs[j]) (t := u1) (u := u2) (flagsP_few hz) S
  have hlt : (j : Int) < (cs.length : Int) := by omega
  have w1 : IntKind.i64.wrap ((j : Int) + 1) = ((j + 1 : Nat) : Int) := by rw [wrap_in (by unfold In64; omega)]; omega
  have hix : indexAV 41 none (.sl (cs.map ctlC) .full) (.int .i64 (j : Int)) = some (.ip (ctlC cs[j]) 0) := by
    simp [indexAV, at_nat, h, ctl_length hf]
  have hl41 : takeC (some 41) (ctlC cs[j]) 0 = some (.agg (ctlC cs[j])) := by
    rw [takeC, if_pos (by rw [ctl_length hf]; omega), List.drop_zero, List.take_of_length_le (by rw [ctl_length hf]; omega)]
  have him := imms_ctl cs[j]
  have hlen := ctl_length hf
  simp only [decide_true] at fl
  generalize ctlC cs[j] = K at *
  generalize flagRows (flagsP z cs[j]) = G at *
  generalize examP z cs[j] = e at *
  generalize reps z = Z at *
  unfold F3_L2
  repeat (first
    | rfl
    | refine cond_t (by rfl) ?_
    | refine cond_f (by rfl) ?_
    | refine ite_of (by first | rfl | assumption) ?_
    | refine bind_of (by simp [-loadV, -storeV, -Int.natCast_add, loadV_ip, hlt, hix, hl41, him, hlen, c1, c2, fl, w1, nextS_same] <;> rfl) ?_)

theorem an_L2s {z : List Rep} {t : Tok} (hz : Few z) {cs : List Ctl} (hc : ∀ c ∈ cs, c.Fit) {n0 : Nat} {t74 : AV} (hl : cs.length ≤ 1000) :
    iter (fun s => F3_L2 call n0 (.sl (reps z) t) t74 (.sl (cs.map ctlC) .full) (i64 cs.length) (s.1.getD 0 .u) s.2) ([i64 0], S) = some (.exit 3, [.u], S) := by
  have key := iter_run (step := fun s => F3_L2 call n0 (.sl (reps z) t) t74 (.sl (cs.map ctlC) .full) (i64 cs.length) (s.1.getD 0 .u) s.2) (fun k => ([i64 (k : Nat)], S)) (r := (Ex.exit 3, [.u], S)) cs.length 0
    (fun k _ hk => an_L2 hz hc (by omega) hl) (by unfold F3_L2; simp)
  exact key

set_option maxHeartbeats 2000000 in
theorem an_L1 {zs : List (List Rep)} (hz : ∀ z ∈ zs, Few z) {k1 k2 : Ctl} (h1 : k1.Fit) (h2 : k2.Fit) {j n0 : Nat} (h : j < zs.length) (hl : zs.length ≤ 1000) :
    F3_L1 call n0 (.ip (ctlC k1) 0) (.ip (ctlC k2) 0) (.sl (zs.map fun z => [.sl (reps z) .none]) .full) (i64 zs.length) (i64 (j : Int)) S = some (.inl ([i64 ((j + 1 : Nat) : Int)], S)) := by
  have lp := an_L2s (S := S) (t := .none) (hz _ (List.getElem_mem h)) (cs := [k1, k2]) (by simp [h1, h2]) (n0 := n0) (t74 := i64 (j : Int)) (by simp)
  have hlt : (j : Int) < (zs.length : Int) := by omega
  have w1 : IntKind.i64.wrap ((j : Int) + 1) = ((j + 1 : Nat) : Int) := by rw [wrap_in (by unfold In64; omega)]; omega
  have hix : indexAV 1 none (.sl (zs.map fun z => [.sl (reps z) .none]) .full) (.int .i64 (j : Int)) = some (.ip [.sl (reps zs[j]) .none] 0) := by
    simp [indexAV, at_nat, h]
  have l1 : takeC (some 41) (ctlC k1) 0 = some (.agg (ctlC k1)) := by
    rw [takeC, if_pos (by rw [ctl_length h1]; omega), List.drop_zero, List.take_of_length_le (by rw [ctl_length h1]; omega)]
  have l2 : takeC (some 41) (ctlC k2) 0 = some (.agg (ctlC k2)) := by
    rw [takeC, if_pos (by rw [ctl_length h2]; omega), List.drop_zero, List.take_of_length_le (by rw [ctl_length h2]; omega)]
  have bs : bsliceV 41 [cellsOf (.agg (ctlC k1)), cellsOf (.agg (ctlC k2))] = some (.sl [ctlC k1, ctlC k2] .full) := by
    simp [bsliceV, immRows, imms_ctl, ctl_length h1, ctl_length h2]
  simp only [List.map_cons, List.map_nil, List.length_cons, List.length_nil] at lp
  unfold F3_L1
  refine bind_of (a := .bool true) (by simp [hlt]) (cond_t rfl ?_)
  refine bind_of hix (bind_of rfl ?_)
  refine bind_of (show loadV (some 41) (.ip (ctlC k1) 0) S = _ from l1) (bind_of (show loadV (some 41) (.ip (ctlC k2) 0) S = _ from l2) (bind_of bs (bind_of (a := i64 2) rfl ?_)))
  refine bind_of lp ?_
  simp only [exK_exit, Nat.beq_refl, cond_true]
  repeat (first
    | rfl
    | refine cond_t (by rfl) ?_
    | refine cond_f (by rfl) ?_
    | refine ite_of (by first | rfl | assumption) ?_
    | refine bind_of (by simp [-loadV, -storeV, -Int.natCast_add, loadV_ip, w1, nextS_same] <;> rfl) ?_)

theorem an_L1s {zs : List (List Rep)} (hz : ∀ z ∈ zs, Few z) {k1 k2 : Ctl} (h1 : k1.Fit) (h2 : k2.Fit) {n0 : Nat} (hl : zs.length ≤ 1000) :
    iter (fun s => F3_L1 call n0 (.ip (ctlC k1) 0) (.ip (ctlC k2) 0) (.sl (zs.map fun z => [.sl (reps z) .none]) .full) (i64 zs.length) (s.1.getD 0 .u) s.2) ([i64 0], S) = some (.exit 1, [.u], S) := by
  have key := iter_run (step := fun s => F3_L1 call n0 (.ip (ctlC k1) 0) (.ip (ctlC k2) 0) (.sl (zs.map fun z => [.sl (reps z) .none]) .full) (i64 zs.length) (s.1.getD 0 .u) s.2) (fun k => ([i64 (k : Nat)], S)) (r := (Ex.exit 1, [.u], S)) zs.length 0
    (fun k _ hk => an_L1 hz h1 h2 (by omega) hl) (by unfold F3_L1; simp)
  exact key

theorem an_J1 {x raw y : List Rep} (hx : Few x) (hraw : Few raw) (hy : Few y) {k1 k2 : Ctl} (h1 : k1.Fit) (h2 : k2.Fit) {v : AV} {S' : Store} (hf : freezeV v S = some (.sl (reps y) .none, S') ∨ freezeV v S = some (.sl (reps y) .full, S')) {n0 : Nat} {t : Tok} :
    ∃ S2, F3_J1 call n0 (.sl (reps raw) .none) (.ip (ctlC k1) 0) (.sl (reps x) t) (.ip (ctlC k2) 0) v S = some (.bool true, S2) := by
  have lp := an_L1s (S := S') (zs := [raw, x, y]) (by simp [hx, hraw, hy]) h1 h2 (n0 := n0) (by simp)
  have aw := s_awake S'
  refine ⟨S'.take n0, ?_⟩
  unfold F3_J1
  have fin : ∀ u : Tok, freezeV v S = some (.sl (reps y) u, S') → ((freezeV v S).bind fun v32 =>
    (bsliceV 1 [cellsOf (.sl (reps raw) .none), cellsOf (.sl (reps x) t), cellsOf v32.1]).bind fun v33 =>
    (lenV v33).bind fun v34 =>
    (iter (fun s => F3_L1 call n0 (.ip (ctlC k1) 0) (.ip (ctlC k2) 0) v33 v34 (s.1.getD 0 .u) s.2) ([(.int .i64 0)], v32.2)).bind fun r70 => exK none
      (fun i71 => bif Nat.beq i71 1 then ((argVs []).bind fun v72 => (call 10 v72 r70.2.2).bind fun v73 =>
      finish false n0 [v73.1] v73.2) else (none))
      (finish false n0 [(r70.2.1.getD 0 .u)] r70.2.2) r70.1) = some (.bool true, S'.take n0) := fun u hu => by
    refine bind_of hu ?_
    refine bind_of (a := .sl ([raw, x, y].map fun z => [.sl (reps z) .none]) .full) (by simp [bsliceV, immRows]) ?_
    refine bind_of (a := i64 3) rfl ?_
    refine bind_of lp ?_
    simp only [exK_exit, Nat.beq_refl, cond_true]
    refine bind_of (a := []) rfl (bind_of aw ?_)
    simp
  rcases hf with hf | hf
  · exact fin _ hf
  · exact fin _ hf

end
end Go.Proofs.YtlilahgndpdkfaaDoor

/-
  TimelineAnswers: the law answers true, whatever its arguments.
-/
namespace Go.Proofs.YtlilahgndpdkfaaDoor
open Go Go.Abs
set_option maxRecDepth 100000

theorem few_set {l : List Rep} (h : Few l) {k : Nat} {r : Rep} (hr : r.rd.length ≤ 1000) : Few (l.set k r) := ⟨by simpa using h.len, fun x hx => by
  rcases List.mem_or_eq_of_mem_set hx with hx | rfl
  · exact h.rd x hx
  · exact hr⟩

theorem reps_set (l : List Rep) (k : Nat) (r : Rep) : (reps l).set k (repR r) = reps (l.set k r) := by simp [reps, List.map_set]

set_option maxHeartbeats 4000000 in
theorem an_law {raw : List Rep} {given : Ctl} {L : List Int} (hg : given.Fit) (hL : ∀ n ∈ L, In64 n) :
    Ev (call 3 [.sl (reps raw) .none, .agg (ctlC given), .sl (ints L) .none] []) fun r => r.1 = .bool true := by
  rw [k3]
  unfold F3
  refine Ev.to (show imms (cellsOf (.agg (ctlC given))) = some (ctlC given) from imms_ctl given) ?_
  obtain ⟨b, hb, hb2⟩ := s_SmallAll (l := raw) (t := .none) (n := 20) (by omega) []
  refine Ev.to rfl (Ev.to hb (Ev.to rfl ?_))
  cases b with
  | false =>
    refine Ev.t rfl (Ev.to rfl (Ev.to (s_awake _) ?_))
    exact ⟨(.bool true, ([] : Store).take ([] : Store).length), by simp, rfl⟩
  | true =>
    obtain ⟨hr1, hr2⟩ := hb2 rfl
    have hraw : Few raw := ⟨by omega, fun r hr => by have := (hr2 r hr).2; omega⟩
    refine Ev.f rfl ?_
    obtain ⟨S1, hS1⟩ : ∃ S1 : Store, S1 = [srcE (L.take 2000) 0] := ⟨_, rfl⟩
    have hs : Sc S1 0 (L.take 2000) 0 := ⟨by rw [hS1]; simp, by omega, by simp; omega, fun n hn => hL n (List.mem_of_mem_take hn)⟩
    have hN : call 11 [.sl (ints L) .none] [] = some (.ptr 0 0, Sr S1 0 (L.take 2000) 0 []) := by
      rw [s_New, show Sr S1 0 (L.take 2000) 0 [] = S1 from Stt.self (by rw [hS1]; rfl), hS1]; rfl
    refine Ev.to rfl (Ev.to hN ?_)
    have hlen1 : S1.length = 1 := by rw [hS1]; rfl
    clear hN hS1
    generalize L.take 2000 = L' at *
    refine Ev.to rfl ?_
    refine Ev.bind ((g_Minute 0).at (by assumption)) ?_
    rintro _ ⟨v1, a1, k1, q1, rfl⟩
    try dsimp only
    obtain ⟨m, rfl, m1, m2⟩ := q1
    refine Ev.to rfl ?_
    refine Ev.bind ((g_Series (n := 10) (near := m) 0 (by omega) (by omega)).at (by assumption)) ?_
    rintro _ ⟨v2, a2, k2, q2, rfl⟩
    try dsimp only
    obtain ⟨x, m', rfl, hx1, hx2⟩ := q2
    refine Ev.to rfl ?_
    refine Ev.bind ((g_Control 0).at (by assumption)) ?_
    rintro _ ⟨v3, a3, k3, q3, rfl⟩
    try dsimp only
    obtain ⟨k, rfl, hk⟩ := q3
    refine Ev.to (show imms (cellsOf (.agg (ctlC k))) = some (ctlC k) from imms_ctl k) (Ev.ite (ctl_length hk.fit) ?_)
    have hfx : Few x := ser_few hx2 hx1 (by omega)
    have hlx : x.length ≤ 10 := by omega
    have J : ∀ (y : List Rep) (a : Nat) (es : Store) (v : AV) (S' : Store), Few y → (freezeV v (Sr S1 0 L' a es) = some (.sl (reps y) .none, S') ∨ freezeV v (Sr S1 0 L' a es) = some (.sl (reps y) .full, S')) →
        Ev (F3_J1 call ([] : Store).length (.sl (reps raw) .none) (.ip (ctlC given) 0) (.sl (reps x) .none) (.ip (ctlC k) 0) v (Sr S1 0 L' a es)) fun r => r.1 = .bool true := fun y a es v S' hy hf => by
      obtain ⟨S2, h2⟩ := an_J1 hfx hraw hy hg hk.fit hf (n0 := ([] : Store).length) (t := .none)
      exact .of h2 rfl
    refine Ev.to (a := .sl [] .full) rfl ?_
    cases hxe : x with
    | nil =>
      refine Ev.to (a := (.sl [] .full, Sr S1 0 L' a3 [])) rfl (Ev.to (a := i64 0) rfl (Ev.to (a := .bool false) rfl (Ev.f rfl ?_)))
      rw [hxe] at J
      exact J [] a3 [] _ _ ⟨by simp, by simp⟩ (.inr rfl)
    | cons x0 xr =>
      rw [← hxe]
      have hpos : 0 < x.length := by rw [hxe]; simp
      have hem : (reps x).isEmpty = false := by rw [hxe]; rfl
      have hap : appendMV 8 (.sl [] .full) (.sl (reps x) .none) (Sr S1 0 L' a3 []) = some (.osl S1.length 0 x.length 8, Sr S1 0 L' a3 [.obj (reps x).flatten]) := by
        simp only [appendMV, rowsOf_sl, Option.bind_some, immRows_self reps_row, hem, cond_false, Stt.length, Stt.app, reps_length, List.length_nil, Nat.add_zero, List.nil_append]
        rw [if_pos (by simp [room]; omega)]
      refine Ev.to hap (Ev.to (a := i64 x.length) rfl (Ev.to (a := .bool true) (by simp; omega) (Ev.t rfl ?_)))
      refine Ev.to (a := i64 x.length) rfl (Ev.to rfl ?_)
      refine Ev.bind (e_N (by assumption) (by omega) (by omega)) ?_
      rintro _ ⟨i, a4, k4, i1, i2, rfl⟩
      try dsimp only
      refine Ev.to rfl ?_
      refine Ev.bind (e_N (by assumption) (by omega) (by omega)) ?_
      rintro _ ⟨c, a5, k5, c1, c2, rfl⟩
      try dsimp only
      have hi : i.toNat < x.length := by omega
      have hix : indexAV 8 none (.osl S1.length 0 x.length 8) (i64 i) = some (.ptr S1.length (i.toNat * 8)) := by
        simp only [indexAV, i64]
        rw [if_pos ⟨i1, i2, trivial⟩, Nat.zero_add]
      have hwid : ∀ r ∈ reps x, r.length = 8 := fun r hr => (reps_row r hr).1
      have hget : ∀ (j : Nat) (hj : j < (reps x).length), (reps x)[j] = repR (x[j]'(by simpa using hj)) := fun j hj => by simp [reps]
      have hfl := flatten_length hwid
      rw [reps_length] at hfl
      -- what a change leaves
      have chg : ∀ (f : Nat) (vs : List AV) (r' : Rep), f + vs.length ≤ 8 → setC (repR x[i.toNat]) f vs = repR r' → setC (reps x).flatten (i.toNat * 8 + f) vs = (reps (x.set i.toNat r')).flatten := fun f vs r' hf he => by
        rw [setC_row i.toNat (by simpa using hi) f vs hwid hf, hget, he, reps_set]
      have frz : ∀ (a : Nat) (y : List Rep), y.length = x.length → freezeV (.osl S1.length 0 x.length 8) (Sr S1 0 L' a [.obj (reps y).flatten]) = some (.sl (reps y) .none, Sr S1 0 L' a [.dead]) := fun a y hy => by
        have hro := rowsOf_flat (S := Sr S1 0 L' a [.obj (reps y).flatten]) (i := S1.length) (sz := 8) (xs := reps y) (by rw [Stt.own0]; rfl) (fun r hr => (reps_row r hr).1)
        rw [reps_length, hy] at hro
        simp only [freezeV, hro, Option.bind_some, immRows_self reps_row, Stt.set_own0]
        rfl
      have put : ∀ (a f n : Nat) (v : AV) (vs : List AV) (r' : Rep), cells1 (cellsOf v) = some vs → (cellsOf v).length = n → vs.length = n → f + n ≤ 8 → setC (repR x[i.toNat]) f vs = repR r' →
          storeV ([] : Store).length n (.ptr S1.length (i.toNat * 8 + f)) v (Sr S1 0 L' a [.obj (reps x).flatten]) = some (Sr S1 0 L' a [.obj (reps (x.set i.toNat r')).flatten]) := fun a f n v vs r' hv hn hn2 hf he => by
        have := Stt.storeB (S := S1) (i := 0) (e := srcE L' a) (es := [.obj (reps x).flatten]) (b := ([] : Store).length) (k := 0) (o := i.toNat * 8 + f) (n := n) (v := v) (vs := vs) (by simp) rfl hv hn (by rw [hfl]; omega)
        rw [Nat.add_zero] at this
        rw [this, chg f vs r' (by omega) he]
        rfl
      refine Ev.to (a := .bool (c == 0)) rfl ?_
      refine Ev.beq (fun _ => ?_) (fun _ => ?_)
      · have hld : loadV (some 8) (.ptr S1.length (i.toNat * 8)) (Sr S1 0 L' a5 [.obj (reps x).flatten]) = some (.agg (repR x[i.toNat])) := by
          obtain ⟨g1, g2⟩ := row_at hwid i.toNat (by simpa using hi)
          rw [Stt.load0 (cs := (reps x).flatten) rfl, takeC, if_pos g2, g1, hget]
        refine Ev.to hix (Ev.to hld (Ev.to (a := [.ptr 0 0, .agg (repR x[i.toNat])]) (by simp) ?_))
        have hrd := hfx.rd _ (List.getElem_mem hi)
        refine Ev.bind ((g_Bent x[i.toNat] (by omega) 0).at (by assumption)) ?_
        rintro _ ⟨v6, a6, k6, q6, rfl⟩
        obtain ⟨r', rfl, hr'⟩ := q6
        have st := put a6 0 8 (.agg (repR r')) (repR r') r' (by simp [repR]) (by simp) (by simp) (by omega) (setC_full (by simp))
        rw [Nat.add_zero] at st
        refine Ev.to hix (Ev.to st ?_)
        have := (hx2.rep _ (List.getElem_mem hi)).2.2.1.len
        exact J _ a6 _ _ _ (few_set hfx (by omega)) (.inl (frz a6 _ (by simp)))
      · refine Ev.to (a := .bool (c == 1)) rfl ?_
        have hrd := hfx.rd _ (List.getElem_mem hi)
        refine Ev.beq (fun _ => ?_) (fun _ => ?_)
        · have hix0 : indexAV 8 none (.osl S1.length 0 x.length 8) (.int .i64 0) = some (.ptr S1.length 0) := by
            simp only [indexAV]
            rw [if_pos ⟨by omega, by omega, trivial⟩]
            rfl
          have hld : loadV none (.ptr S1.length 2) (Sr S1 0 L' a5 [.obj (reps x).flatten]) = some (i64 x0.time) := by
            rw [Stt.load0 (cs := (reps x).flatten) rfl, take_none, hxe]
            simp [reps, repR]
          have st := put a5 2 1 (i64 x0.time) [i64 x0.time] { x[i.toNat] with time := x0.time } rfl rfl rfl (by omega) rfl
          refine Ev.to hix0 (Ev.to rfl (Ev.to hld (Ev.to hix (Ev.to rfl (Ev.to st ?_)))))
          exact J (x.set i.toNat { x[i.toNat] with time := x0.time }) a5 _ _ _ (few_set hfx hrd) (.inl (frz a5 _ (by simp)))
        · have st := put a5 1 1 (.str [66, 82, 65, 86, 79]) [.str [66, 82, 65, 86, 79]] { x[i.toNat] with name := [66, 82, 65, 86, 79] } rfl rfl rfl (by omega) rfl
          refine Ev.to hix (Ev.to rfl (Ev.to st ?_))
          exact J (x.set i.toNat { x[i.toNat] with name := [66, 82, 65, 86, 79] }) a5 _ _ _ (few_set hfx hrd) (.inl (frz a5 _ (by simp)))

theorem timelineAnswers_true (xs : List AV) (h : FitsAll Tryd.prog 8 Tryd.f3.params.toList xs) : ∃ S', call 3 xs [] = some (.bool true, S') := by
  have hp : Tryd.f3.params.toList = [22, 25, 26] := by kernel_rfl
  rw [hp] at h
  obtain ⟨x1, x2, x3, rfl, h1, h2, h3⟩ := fitsAll3 h
  obtain ⟨raw, rfl, _⟩ := arg_reports h1
  obtain ⟨given, rfl, hg⟩ := arg_control h2
  obtain ⟨L, rfl, _, hL⟩ := arg_ints h3
  obtain ⟨⟨v, S'⟩, e, rfl⟩ := an_law (raw := raw) hg hL
  exact ⟨S', e⟩
end Go.Proofs.YtlilahgndpdkfaaDoor
