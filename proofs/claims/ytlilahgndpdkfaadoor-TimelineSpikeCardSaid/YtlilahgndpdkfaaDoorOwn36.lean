/-
  Texts of this claim: TlTimelineSpikeLaw.
-/
import Derived.Test.YtlilahgndpdkfaaDoorOwn16
import Derived.Test.YtlilahgndpdkfaaDoorOwn23
import Derived.Test.YtlilahgndpdkfaaDoorOwn25
import Derived.Test.YtlilahgndpdkfaaDoorOwn34
set_option linter.all false
/-
  TimelineSpike: the law answers true, whatever its arguments.
-/
namespace Go.Proofs.YtlilahgndpdkfaaDoor
open Go Go.Abs
set_option maxRecDepth 100000

/-- The row that is written in place, so far. -/
structure SpE (S : Store) (K : List AV) (vs : List Int) (es : Store) (v : AV) : Prop where
  e0 : es[0]? = some (.obj K)
  row : (vs = [] ∧ v = .sl [] .full) ∨ (vs ≠ [] ∧ ∃ m, 1 ≤ m ∧ v = .osl (S.length + m) 0 vs.length 8 ∧ es[m]? = some (.obj (reps (spikesL vs 0)).flatten))

section
variable {S : Store} {i : Nat} {L : List Int} {a : Nat}

theorem sp_app {K : List AV} {vs : List Int} {es : Store} {v : AV} (h : SpE S K vs es v) (hl : vs.length ≤ 1000) (w : Int) :
    ∃ v' es', appendMV 8 v (.sl [repR (Abs.spikeR vs.length w)] .full) (Sr S i L a es) = some (v', Sr S i L a es') ∧ SpE S K (vs ++ [w]) es' v' ∧ es.length ≤ es'.length ∧ v' = .osl (S.length + es.length) 0 (vs.length + 1) 8 := by
  have hne : 0 < es.length := (List.getElem?_eq_some_iff.1 h.e0).1
  have hsn := spikesL_snoc vs 0 w
  rw [Nat.zero_add] at hsn
  rcases h.row with ⟨rfl, rfl⟩ | ⟨hv, m, hm, rfl, hem⟩
  · refine ⟨_, es ++ [.obj (repR (Abs.spikeR 0 w))], ?_, ⟨by rw [List.getElem?_append_left hne]; exact h.e0, .inr ⟨by simp, es.length, hne, rfl, ?_⟩⟩, by simp, rfl⟩
    · simp only [appendMV, rowsOf_sl, Option.bind_some, immRows, repR_length, if_true, imms_repR, List.length_cons, List.length_nil, Stt.length, Stt.app, List.isEmpty_cons, cond_false, List.flatten_cons, List.flatten_nil, List.append_nil]
      rw [if_pos (by simp [room])]
      rfl
    · rw [List.getElem?_append_right (Nat.le_refl _)]
      simp [spikesL, reps]
  · have hml := (List.getElem?_eq_some_iff.1 hem).1
    have hfl := flatten_length (xs := reps (spikesL vs 0)) (sz := 8) fun x hx => (reps_row x hx).1
    rw [reps_length, spikesL_length] at hfl
    have hpos : 0 < vs.length := List.length_pos_iff.2 hv
    refine ⟨_, es.set m .dead ++ [.obj ((reps (spikesL vs 0)).flatten ++ repR (Abs.spikeR vs.length w))], ?_, ⟨?_, .inr ⟨by simp, es.length, hne, by simp, ?_⟩⟩, by simp, rfl⟩
    · simp only [appendMV, Stt.own, hem, rowsOf_sl, Option.bind_some, immRows, repR_length, if_true, imms_repR, List.length_cons, List.length_nil, Stt.length, Stt.app, Stt.set_own, List.flatten_cons, List.flatten_nil, List.append_nil]
      rw [if_pos ⟨trivial, hpos, by omega, by simp [room]; omega⟩, ← hfl, List.take_length]
    · rw [List.getElem?_append_left (by simpa using hne), List.getElem?_set_ne (by omega)]; exact h.e0
    · have : (es.set m Ent.dead).length = es.length := by simp
      rw [List.getElem?_append_right (by omega), this, Nat.sub_self, hsn]
      simp [reps]

theorem sp_L1 {n0 n : Nat} {K : List AV} {vs : List Int} {es : Store} {v t1 t6 : AV} (hs : Sc S i L a) (h : SpE S K vs es v) (hn : n ≤ 1000) (hj : vs.length < n) :
    Ev (F6_L1 call n0 t1 (.ptr i 0) t6 (i64 (n : Int)) v (i64 (vs.length : Int)) (Sr S i L a es)) fun x => ∃ (a : Nat) (w : Int) (v' : AV) (es' : Store), Sc S i L a ∧ 9988 ≤ w ∧ w ≤ 10012 ∧ SpE S K (vs ++ [w]) es' v' ∧ x = .inl ([v', i64 ((vs.length + 1 : Nat) : Int)], Sr S i L a es') := by
  have hlt : (vs.length : Int) < (n : Int) := by omega
  have hlen : ∀ a, (Sr S i L a es).length = S.length + es.length := fun a => Stt.length
  unfold F6_L1
  simp only [hlen]
  refine Ev.to (a := .bool true) (by simp [hlt]) (Ev.t rfl ?_)
  refine Ev.to (a := i64 (60 * (vs.length : Int))) (by simp (disch := omega)) (Ev.to rfl ?_)
  refine Ev.bind (e_Range (by assumption) (by omega) (by omega) (by omega)) ?_
  rintro _ ⟨r, a1, k1, r1, r2, rfl⟩
  try dsimp only
  obtain ⟨v', es', p1, p2, p3, p4⟩ := sp_app (i := i) (L := L) (a := a1) h (by omega) (10000 + r)
  have er : repR (Abs.spikeR vs.length (10000 + r)) = [i64 1, .str [65, 76, 80, 72, 65], i64 (60 * (vs.length : Int)), i64 0, i64 0, i64 0, i64 0, .sl [[i64 1, i64 (10000 + r)]] .none] := rfl
  rw [er] at p1
  have wj : IntKind.i64.wrap ((vs.length : Int) + 1) = ((vs.length + 1 : Nat) : Int) := by rw [wrap_in (by unfold In64; omega)]; omega
  have nx : nextS n0 (S.length + es.length) [v', i64 ((vs.length + 1 : Nat) : Int)] (Sr S i L a1 es') = some ([v', i64 ((vs.length + 1 : Nat) : Int)], Sr S i L a1 es') := by
    unfold nextS
    rw [if_neg]
    have hb : Nat.blt (S.length + es.length) (S.length + es.length) = false := blt_false (Nat.le_refl _)
    rw [p4]
    simp [hb]
  refine Ev.to (a := i64 (10000 + r)) (by simp (disch := omega)) ?_
  refine Ev.to (a := .agg [i64 1, i64 (10000 + r)]) rfl (Ev.to (a := .sl [[i64 1, i64 (10000 + r)]] .full) rfl ?_)
  refine Ev.to (a := .agg [i64 1, .str [65, 76, 80, 72, 65], i64 (60 * (vs.length : Int)), i64 0, i64 0, i64 0, i64 0, .sl [[i64 1, i64 (10000 + r)]] .full]) rfl ?_
  refine Ev.to (a := .sl [[i64 1, .str [65, 76, 80, 72, 65], i64 (60 * (vs.length : Int)), i64 0, i64 0, i64 0, i64 0, .sl [[i64 1, i64 (10000 + r)]] .none]] .full) rfl ?_
  refine Ev.to p1 (Ev.to (a := i64 ((vs.length + 1 : Nat) : Int)) (by simp [wj]) (Ev.to nx ?_))
  exact .mk ⟨a1, 10000 + r, v', es', k1, by omega, by omega, p2, rfl⟩
end

def spK : Ctl := ⟨0, List.replicate 12 0, [0, 50, 0, 0, 0, 0, 0, 0, 0, 0, 0, 0], List.replicate 16 0⟩

set_option maxHeartbeats 8000000 in
theorem sp_law {by_ : Int} {L : List Int} (hL : ∀ n ∈ L, In64 n) : Ev (call 6 [.sl (ints L) .none, i64 by_] []) fun r => r.1 = .bool true := by
  rw [k6]
  unfold F6
  obtain ⟨S1, L', hN, hs, hlen1⟩ := law_New L hL
  refine Ev.to rfl (Ev.to hN ?_)
  simp only [Stt.length, Stt.app, List.length_nil, Nat.add_zero, List.nil_append]
  have st0 : storeV 0 1 (.ptr S1.length 14) (.int .i64 50) (Sr S1 0 L' 0 [.obj (List.replicate 41 (i64 0))]) = some (Sr S1 0 L' 0 [.obj (ctlC spK)]) := by
    have := Stt.storeB (S := S1) (i := 0) (e := srcE L' 0) (es := [.obj (List.replicate 41 (i64 0))]) (b := 0) (k := 0) (o := 14) (n := 1) (v := i64 50) (cs := List.replicate 41 (i64 0)) (vs := [i64 50]) (by omega) rfl rfl rfl (by simp)
    rw [Nat.add_zero] at this
    exact this
  refine Ev.to (a := .ptr S1.length 13) rfl (Ev.to (a := .ptr S1.length 14) rfl (Ev.to st0 (Ev.to rfl ?_)))
  refine Ev.bind (e_Range (by assumption) (by omega) (by omega) (by omega)) ?_
  rintro _ ⟨nI, a1, k1, n1, n2, rfl⟩
  try dsimp only
  obtain ⟨n, rfl⟩ : ∃ n : Nat, nI = (n : Int) := ⟨nI.toNat, by omega⟩
  refine Ev.bind (Ev.iter (Q := fun r => ∃ (a : Nat) (vs : List Int) (v : AV) (es : Store), Sc S1 0 L' a ∧ vs.length = n ∧ (∀ w ∈ vs, 9988 ≤ w ∧ w ≤ 10012) ∧ SpE S1 (ctlC spK) vs es v ∧ r = (.exit 0, [v], Sr S1 0 L' a es))
    (fun m s => ∃ (a : Nat) (vs : List Int) (v : AV) (es : Store), vs.length + m = n ∧ Sc S1 0 L' a ∧ (∀ w ∈ vs, 9988 ≤ w ∧ w ≤ 10012) ∧ SpE S1 (ctlC spK) vs es v ∧ s = ([v, i64 (vs.length : Int)], Sr S1 0 L' a es))
    (fun m s ⟨a, vs, v, es, hm, h1, h2, h3, e⟩ => by
      subst e
      by_cases hj : vs.length < n
      · refine (sp_L1 (t1 := i64 by_) (t6 := .ptr S1.length 0) (n0 := 0) h1 h3 (by omega) hj).mono fun x hx => ?_
        obtain ⟨a', w, v', es', g1, g2, g3, g4, rfl⟩ := hx
        refine ⟨m - 1, by omega, a', vs ++ [w], v', es', by simp; omega, g1, ?_, g4, by simp⟩
        intro y hy
        rcases List.mem_append.1 hy with hy | hy
        · exact h2 y hy
        · obtain rfl := List.mem_singleton.1 hy; exact ⟨g2, g3⟩
      · refine ⟨.inr (.exit 0, [v], Sr S1 0 L' a es), ?_, a, vs, v, es, h1, by omega, h2, h3, rfl⟩
        have hlt : ¬ (vs.length : Int) < (n : Int) := by omega
        unfold F6_L1
        simp [hlt]) (k := n) ⟨a1, [], .sl [] .full, [.obj (ctlC spK)], by simp, k1, by simp, ⟨rfl, .inl ⟨rfl, rfl⟩⟩, rfl⟩) ?_
  rintro _ ⟨a2, vs, v, es, k2, hvn, hvs, hE, rfl⟩
  simp only [exK_exit, Nat.beq_refl, cond_true]
  have wn : IntKind.i64.wrap ((n : Int) - 2) = (n : Int) - 2 := wrap_in (by unfold In64; omega)
  refine Ev.to (a := i64 ((n : Int) - 2)) (by simp [wn]) (Ev.to rfl ?_)
  refine Ev.bind (e_Range (by assumption) (by omega) (by omega) (by omega)) ?_
  rintro _ ⟨qI, a3, k3, q1, q2, rfl⟩
  try dsimp only
  obtain ⟨q, rfl⟩ : ∃ q : Nat, qI = (q : Int) := ⟨qI.toNat, by omega⟩
  refine Ev.to rfl ?_
  refine Ev.bind (e_Mod (by omega) (by omega)) ?_
  rintro _ ⟨e, e1, e2, rfl⟩
  try dsimp only
  refine Ev.to (a := i64 (100 + e)) (by simp (disch := omega)) (Ev.to (a := i64 (10000 + (100 + e))) (by simp (disch := omega)) ?_)
  refine Ev.to (a := .agg [i64 1, i64 (10000 + (100 + e))]) rfl (Ev.to (a := .sl [[i64 1, i64 (10000 + (100 + e))]] .full) rfl (Ev.to (a := .sl [[i64 1, i64 (10000 + (100 + e))]] .none) rfl ?_))
  generalize hd : 100 + e = d at *
  rcases hE.row with ⟨h0, _⟩ | ⟨_, m, hm, rfl, hem⟩
  · rw [h0] at hvn; simp at hvn; omega
  have hq : q < vs.length := by omega
  have hix : indexAV 8 none (.osl (S1.length + m) 0 vs.length 8) (i64 (q : Int)) = some (.ptr (S1.length + m) (q * 8)) := by
    simp only [indexAV, i64]
    rw [if_pos ⟨by omega, by omega, trivial⟩, Nat.zero_add, Int.toNat_natCast]
  have hw8 : ∀ x ∈ reps (spikesL vs 0), x.length = 8 := fun x hx => (reps_row x hx).1
  have hfl := flatten_length hw8
  rw [reps_length, spikesL_length] at hfl
  have hml := (List.getElem?_eq_some_iff.1 hem).1
  have hsq : (spikesL vs 0)[q]? = some (Abs.spikeR q vs[q]) := by
    have := spikesL_get vs 0 q hq
    rwa [Nat.zero_add] at this
  have e3 : setC (reps (spikesL vs 0)).flatten (q * 8 + 7) [.sl [[i64 1, i64 (10000 + d)]] .none] = (reps (spikesL (vs.set q (10000 + d)) 0)).flatten := by
    rw [setC_row q (by simpa using hq) 7 _ hw8 (by simp)]
    congr 1
    have e4 : (reps (spikesL vs 0))[q]'(by simpa using hq) = repR (Abs.spikeR q vs[q]) := by
      have := congrArg (Option.map repR) hsq
      rw [← List.getElem?_map] at this
      exact Option.some.inj (by rw [← List.getElem?_eq_getElem]; exact this)
    rw [e4]
    have e5 : setC (repR (Abs.spikeR q vs[q])) 7 [.sl [[i64 1, i64 (10000 + d)]] .none] = repR (Abs.spikeR q (10000 + d)) := rfl
    rw [e5]
    have := spikesL_set vs 0 q (10000 + d)
    rw [Nat.zero_add] at this
    rw [← this]
    simp [reps, List.map_set]
  have st : storeV 0 1 (.ptr (S1.length + m) (q * 8 + 7)) (.sl [[i64 1, i64 (10000 + d)]] .none) (Sr S1 0 L' a3 es) = some (Sr S1 0 L' a3 (es.set m (.obj (reps (spikesL (vs.set q (10000 + d)) 0)).flatten))) := by
    have := Stt.storeB (S := S1) (i := 0) (e := srcE L' a3) (es := es) (b := 0) (k := m) (o := q * 8 + 7) (n := 1) (v := .sl [[i64 1, i64 (10000 + d)]] .none) (vs := [.sl [[i64 1, i64 (10000 + d)]] .none]) (by omega) hem rfl rfl (by rw [hfl]; omega)
    rw [this, e3]
  have hvl : (vs.set q (10000 + d)).length = vs.length := by simp
  have hrow : (Sr S1 0 L' a3 (es.set m (.obj (reps (spikesL (vs.set q (10000 + d)) 0)).flatten)))[S1.length + m]? = some (.obj (reps (spikesL (vs.set q (10000 + d)) 0)).flatten) := by
    rw [Stt.own, List.getElem?_set_self hml]
  have hfitK : spK.Fit := ⟨rfl, rfl, rfl⟩
  have hg : Abs.Good (spikesL (vs.set q (10000 + d)) 0) := spikesL_good (fun w hw => by
    rcases List.mem_or_eq_of_mem_set hw with hw | rfl
    · have := hvs w hw; omega
    · omega) (by rw [hvl]; omega)
  have hfew : Few (spikesL (vs.set q (10000 + d)) 0) := ⟨by simp; omega, fun r hr => by
    obtain ⟨_, _, _, rfl⟩ := mem_spikesL hr
    simp [Abs.spikeR]⟩
  have he := examP_ok (k := spK) hg (by decide) (by decide)
  have hF := spikes_flags (vs := vs.set q (10000 + d)) (k := spK) (i0 := q) (d := d) (by omega) (by rw [hvl]; omega) (by rw [hvl]; omega) (by omega) (by rw [List.getElem?_set_self hq]) (fun j w hj hw => by
    rw [List.getElem?_set_ne (Ne.symm hj)] at hw
    exact hvs w (List.mem_of_getElem? hw)) (by decide) (by decide)
  have hcl := spikesL_length (vs.set q (10000 + d)) 0
  have C1 := o_CheckOK (l := spikesL (vs.set q (10000 + d)) 0) (jj := S1.length + m) (k := spK) hfitK (by rw [hcl, hvl]; omega) hfew.all he (refFlags_sorted hg) (refFlags_perm hg) hrow
  rw [hF, hcl, hvl] at C1
  have ld1 : loadV (some 41) (.ptr S1.length 0) (Sr S1 0 L' a3 (es.set m (.obj (reps (spikesL (vs.set q (10000 + d)) 0)).flatten))) = some (.agg (ctlC spK)) := Stt.loadA0 (n := 41) (cs := ctlC spK) (by rw [List.getElem?_set_ne (by omega)]; exact hE.e0) (ctl_length hfitK)
  have him := imms_ctl spK
  have ld2 : loadV none (.ptr (S1.length + m) (q * 8 + 7)) (Sr S1 0 L' a3 (es.set m (.obj (reps (spikesL (vs.set q (10000 + d)) 0)).flatten))) = some (.sl (rds [(1, 10000 + d)]) .none) := by
    obtain ⟨g1, g2⟩ := row_at (xs := reps (spikesL (vs.set q (10000 + d)) 0)) (sz := 8) (fun x hx => (reps_row x hx).1) q (by simpa using hq)
    have g3 : (reps (spikesL (vs.set q (10000 + d)) 0))[q]'(by simpa using hq) = repR (Abs.spikeR q (10000 + d)) := by
      have h1 := spikesL_get (vs.set q (10000 + d)) 0 q (by simpa using hq)
      rw [Nat.zero_add, List.getElem_set_self] at h1
      have := congrArg (Option.map repR) h1
      rw [← List.getElem?_map] at this
      exact Option.some.inj (by rw [← List.getElem?_eq_getElem]; exact this)
    rw [Stt.load (k := m) (cs := (reps (spikesL (vs.set q (10000 + d)) 0)).flatten) (by rw [List.getElem?_set_self hml]), take_none]
    have h7 : ((reps (spikesL (vs.set q (10000 + d)) 0)).flatten)[q * 8 + 7]? = (((reps (spikesL (vs.set q (10000 + d)) 0)).flatten.drop (q * 8)).take 8)[7]? := by
      rw [List.getElem?_take_of_lt (by omega), List.getElem?_drop]
    rw [h7, g1, g3]
    rfl
  have fd := r_Find (l := [(1, 10000 + d)]) (t := .none) (c := 1) (by simp) (Sr S1 0 L' a3 (es.set m (.obj (reps (spikesL (vs.set q (10000 + d)) 0)).flatten)))
  have hfind : findP [(1, 10000 + d)] 1 = some (10000 + d) := rfl
  rw [hfind] at fd
  simp only at fd
  have rf := r_Flags (a := [((q : Int), 1)]) (b := [((q : Int), 1)]) (t := if flagRows [((q : Int), (1 : Int))] = [] then .full else .none) (u := .full) (by simp) (Sr S1 0 L' a3 (es.set m (.obj (reps (spikesL (vs.set q (10000 + d)) 0)).flatten)))
  simp only [decide_true] at rf
  have aw := s_awake (Sr S1 0 L' a3 (es.set m (.obj (reps (spikesL (vs.set q (10000 + d)) 0)).flatten)))
  have hfr : flagRows [((q : Int), (1 : Int))] = [[i64 (q : Int), i64 1, i64 4]] := rfl
  have w10 : IntKind.i64.wrap (10000 + d) = 10000 + d := wrap_in (by unfold In64; omega)
  generalize (if flagRows [((q : Int), (1 : Int))] = [] then Tok.full else .none) = u at *
  rw [hfr] at C1 rf
  generalize Sr S1 0 L' a3 (es.set m (.obj (reps (spikesL (vs.set q (10000 + d)) 0)).flatten)) = S9 at *
  generalize rds [(1, 10000 + d)] = R at *
  generalize ctlC spK = K at *
  refine Ev.to hix (Ev.to rfl (Ev.to st ?_))
  refine Ev.to ld1 (Ev.to (a := [.osl (S1.length + m) 0 vs.length 8, .agg K]) (by simp [him]) (Ev.to C1 (Ev.to rfl (Ev.to rfl ?_))))
  refine Ev.to hix (Ev.to rfl (Ev.to ld2 (Ev.to rfl (Ev.to fd (Ev.to rfl (Ev.to rfl ?_))))))
  clear C1 fd ld1 ld2 st hix
  repeat (first
    | refine Ev.fin (by simp [w10, rf, aw] <;> rfl) (by simp [w10, rf, aw]) ?_
    | refine Ev.t (by rfl) ?_
    | refine Ev.f (by rfl) ?_
    | refine Ev.ite (by first | rfl | assumption) ?_
    | refine Ev.to (by simp (disch := omega) [-loadV, -storeV, -Int.natCast_add, loadV_ip, w10, rf, aw] <;> rfl) ?_
    | refine Ev.to (by simp [-loadV, -storeV, -Int.natCast_add, loadV_ip, w10, rf, aw] <;> rfl) ?_)
  exact ⟨(.bool true, S9.take 0), by simp, rfl⟩

theorem timelineSpike_true (xs : List AV) (h : FitsAll Tryd.prog 8 Tryd.f6.params.toList xs) : ∃ S', call 6 xs [] = some (.bool true, S') := by
  have hp : Tryd.f6.params.toList = [26, 3] := by kernel_rfl
  rw [hp] at h
  obtain ⟨x1, x2, rfl, h1, h2⟩ := fitsAll2 h
  obtain ⟨L, rfl, _, hL⟩ := arg_ints h1
  obtain ⟨code, rfl, _⟩ := arg_int h2
  obtain ⟨⟨v, S'⟩, e, rfl⟩ := sp_law (by_ := code) hL
  exact ⟨S', e⟩
end Go.Proofs.YtlilahgndpdkfaaDoor
