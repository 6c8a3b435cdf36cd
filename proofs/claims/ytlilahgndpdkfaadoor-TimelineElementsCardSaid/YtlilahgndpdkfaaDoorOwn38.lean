/-
  Texts of this claim: TlLawEl, TlTimelineElementsLaw.
-/
import Derived.Test.YtlilahgndpdkfaaDoorOwn18
import Derived.Test.YtlilahgndpdkfaaDoorOwn23
import Derived.Test.YtlilahgndpdkfaaDoorOwn24
import Derived.Test.YtlilahgndpdkfaaDoorOwn36
set_option linter.all false
/-
  TimelineElements: the law answers true, whatever its arguments.
-/
namespace Go.Proofs.YtlilahgndpdkfaaDoor
open Go Go.Abs
set_option maxRecDepth 100000

section
variable {S : Store} {i : Nat} {L : List Int} {a : Nat}

set_option maxHeartbeats 2000000 in
theorem el_J1 {n0 k : Nat} {es : Store} {ys : List Rep} {r : Rep} {cs : List AV} (hc : imms cs = some (repR r)) (hcl : cs.length = 8) (h0 : es[0]? = some (.tail ys.length 8)) (hl : ys.length ≤ 1000) (hk : k ≤ 1000) :
    ∃ es', F8_J1 call n0 (S.length + es.length) (.sl (reps ys) (.own S.length)) (.ptr (S.length + es.length) 0) (i64 (k : Int)) (Sr S i L a (es ++ [.obj cs])) = some (.inl ([.sl (reps (ys ++ [r])) (.own S.length), i64 ((k + 1 : Nat) : Int)], Sr S i L a es')) ∧ es'[0]? = some (.tail (ys.length + 1) 8) := by
  have hpos : 0 < es.length := (List.getElem?_eq_some_iff.1 h0).1
  have ld := Stt.loadA (S := S) (i := i) (e := srcE L a) (k := es.length) (es := es ++ [.obj cs]) (n := 8) (cs := cs) (by simp) hcl
  have bs : bsliceV 8 [cs] = some (.sl [repR r] .full) := by simp [bsliceV, immRows, hcl, hc]
  have ap := row_app (S := S) (i := i) (L := L) (a := a) (k := 0) (es := es ++ [.obj cs]) (ys := ys) (r := r) (by rw [List.getElem?_append_left hpos]; exact h0) hl
  rw [Nat.add_zero] at ap
  have w1 : IntKind.i64.wrap ((k : Int) + 1) = ((k + 1 : Nat) : Int) := by rw [wrap_in (by unfold In64; omega)]; omega
  obtain ⟨es', n1, n2⟩ := Stt.nextKeep (S := S) (i := i) (e := srcE L a) (es := (es ++ [Ent.obj cs]).set 0 (.tail (ys.length + 1) 8)) (b := n0) (k := es.length) (vs := [.sl (reps (ys ++ [r])) (.own S.length), .int .i64 ((k + 1 : Nat) : Int)])
  refine ⟨es', ?_, by rw [n2 0 hpos, List.getElem?_set_self (by simp)]⟩
  unfold F8_J1 F8_J2
  refine bind_of ld (bind_of (show bsliceV 8 [cellsOf (.agg cs)] = _ from bs) (bind_of ap ?_))
  repeat (first
    | rfl
    | refine cond_t (by rfl) ?_
    | refine cond_f (by rfl) ?_
    | refine ite_of (by first | rfl | assumption) ?_
    | refine bind_of (by simp [-loadV, -storeV, -Int.natCast_add, loadV_ip, ownV, w1, n1] <;> rfl) ?_)

set_option maxHeartbeats 2000000 in
theorem el_L1 {n0 k : Nat} {es : Store} {x ys : List Rep} {c : Int} {t6 t7 : AV} (hn : n0 ≤ S.length) (hk : k < x.length) (hv : validP x[k].rd = 0) (hrd : x[k].rd.length ≤ 1000) (h0 : es[0]? = some (.tail ys.length 8)) (hl : ys.length ≤ 1000) (hx : x.length ≤ 1000) :
    ∃ es', F8_L1 call n0 t6 t7 (i64 c) (.sl (reps x) .none) (i64 x.length) (.sl (reps ys) (.own S.length)) (i64 (k : Int)) (Sr S i L a es) = some (.inl ([.sl (reps (ys ++ [onlyC c x[k]])) (.own S.length), i64 ((k + 1 : Nat) : Int)], Sr S i L a es')) ∧ es'[0]? = some (.tail (ys.length + 1) 8) := by
  have hlt : (k : Int) < (x.length : Int) := by omega
  have hix : indexAV 8 none (.sl (reps x) .none) (.int .i64 (k : Int)) = some (.ip (repR x[k]) 0) := by simp [indexAV, at_reps hk]
  have hl8 : takeC (some 8) (repR x[k]) 0 = some (.agg (repR x[k])) := rfl
  have hc1 : cells1 (repR x[k]) = some (repR x[k]) := by simp [repR]
  have ld := Stt.load (S := S) (i := i) (e := srcE L a) (es := es ++ [.obj (repR x[k])]) (k := es.length) (o := 7) (n := none) (cs := repR x[k]) (by simp)
  have hld : takeC none (repR x[k]) 7 = some (.sl (rds x[k].rd) .none) := rfl
  rw [hld] at ld
  have fd := r_Find (l := x[k].rd) (t := .none) (c := c) (by omega) (Sr S i L a (es ++ [.obj (repR x[k])]))
  have st1 : storeV n0 1 (.ptr (S.length + es.length) 7) (.sl [] .full) (Sr S i L a (es ++ [.obj (repR x[k])])) = some (Sr S i L a (es ++ [.obj (repV x[k] (.sl [] .full))])) := by
    have := Stt.storeB (S := S) (i := i) (e := srcE L a) (es := es ++ [.obj (repR x[k])]) (b := n0) (k := es.length) (o := 7) (n := 1) (v := .sl [] .full) (vs := [.sl [] .full]) (cs := repR x[k]) (by omega) (by simp) rfl rfl (by simp)
    rw [this]
    simp [setC, repR, repV]
  have hpair := incrR_pairwise (validP_zero hv).2
  have hfl := filter_find hpair c
  have hap : Sr S i L a es ++ [Ent.obj (repR x[k])] = Sr S i L a (es ++ [.obj (repR x[k])]) := Stt.app
  have hlen : (Sr S i L a es).length = S.length + es.length := Stt.length
  have hR8 : (repR x[k]).length = 8 := rfl
  cases hf : findP x[k].rd c with
  | none =>
    rw [hf] at fd hfl
    simp only at hfl fd
    obtain ⟨es', j1, j2⟩ := el_J1 (S := S) (i := i) (L := L) (a := a) (n0 := n0) (k := k) (es := es) (ys := ys) (r := onlyC c x[k]) (cs := repV x[k] (.sl [] .full)) (by simp [repV, repR, onlyC, hfl]) rfl h0 hl (by omega)
    refine ⟨es', ?_, j2⟩
    rw [← j1]
    unfold F8_L1
    simp only [hlen]
    generalize repR x[k] = R at *
    generalize rds x[k].rd = D at *
    repeat (first
      | rfl
      | refine cond_t (by rfl) ?_
      | refine cond_f (by rfl) ?_
      | refine ite_of (by first | rfl | assumption) ?_
      | refine bind_of (by simp [-loadV, -storeV, -Int.natCast_add, loadV_ip, hlt, hix, hl8, hc1, hap, ld, fd, st1] <;> rfl) ?_)
  | some v =>
    rw [hf] at fd hfl
    simp only at hfl fd
    have st2 : storeV n0 1 (.ptr (S.length + es.length) 7) (.sl [[.int .i64 c, .int .i64 v]] .full) (Sr S i L a (es ++ [.obj (repV x[k] (.sl [] .full))])) = some (Sr S i L a (es ++ [.obj (repV x[k] (.sl [[i64 c, i64 v]] .full))])) := by
      have := Stt.storeB (S := S) (i := i) (e := srcE L a) (es := es ++ [.obj (repV x[k] (.sl [] .full))]) (b := n0) (k := es.length) (o := 7) (n := 1) (v := .sl [[i64 c, i64 v]] .full) (vs := [.sl [[i64 c, i64 v]] .full]) (cs := repV x[k] (.sl [] .full)) (by omega) (by simp) rfl rfl (by simp [repV])
      rw [this]
      simp [setC, repV]
    obtain ⟨es', j1, j2⟩ := el_J1 (S := S) (i := i) (L := L) (a := a) (n0 := n0) (k := k) (es := es) (ys := ys) (r := onlyC c x[k]) (cs := repV x[k] (.sl [[i64 c, i64 v]] .full)) (by simp [repV, repR, onlyC, hfl, rds]) rfl h0 hl (by omega)
    refine ⟨es', ?_, j2⟩
    rw [← j1]
    unfold F8_L1
    simp only [hlen]
    generalize repR x[k] = R at *
    generalize rds x[k].rd = D at *
    generalize repV x[k] (.sl [] .full) = V0 at *
    generalize repV x[k] (.sl [[i64 c, i64 v]] .full) = V1 at *
    repeat (first
      | rfl
      | refine cond_t (by rfl) ?_
      | refine cond_f (by rfl) ?_
      | refine ite_of (by first | rfl | assumption) ?_
      | refine bind_of (by simp [-loadV, -storeV, -Int.natCast_add, loadV_ip, hlt, hix, hl8, hc1, hap, ld, fd, st1, st2] <;> rfl) ?_)
end
end Go.Proofs.YtlilahgndpdkfaaDoor

/-
  TimelineElements: the law answers true, whatever its arguments.
-/
namespace Go.Proofs.YtlilahgndpdkfaaDoor
open Go Go.Abs
set_option maxRecDepth 100000

section
variable {S : Store} {i : Nat} {L : List Int} {a : Nat}

theorem el_L1s {n0 : Nat} {es : Store} {x : List Rep} {c : Int} {t6 t7 : AV} (hn : n0 ≤ S.length) (hg : Abs.Good x) (hf : Few x) (h0 : es[0]? = some (.tail 0 8)) :
    ∃ es', iter (fun s => F8_L1 call n0 t6 t7 (i64 c) (.sl (reps x) .none) (i64 x.length) (s.1.getD 0 .u) (s.1.getD 1 .u) s.2) ([.sl [] (.own S.length), i64 0], Sr S i L a es) = some (.exit 0, [.sl (reps (x.map (onlyC c))) (.own S.length)], Sr S i L a es') := by
  have hx := hf.len
  obtain ⟨r, h1, es', rfl⟩ := iter_to (step := fun s => F8_L1 call n0 t6 t7 (i64 c) (.sl (reps x) .none) (i64 x.length) (s.1.getD 0 .u) (s.1.getD 1 .u) s.2)
    (fun k s => ∃ es, s = ([.sl (reps ((x.take k).map (onlyC c))) (.own S.length), i64 (k : Int)], Sr S i L a es) ∧ es[0]? = some (.tail k 8))
    (fun r => ∃ es', r = (.exit 0, [.sl (reps (x.map (onlyC c))) (.own S.length)], Sr S i L a es')) x.length
    (fun k s hk ⟨es, hs, he⟩ => by
      subst hs
      have hl : ((x.take k).map (onlyC c)).length = k := by simp; omega
      have hm := List.getElem_mem hk
      obtain ⟨es', j1, j2⟩ := el_L1 (S := S) (i := i) (L := L) (a := a) (t6 := t6) (t7 := t7) (c := c) hn hk (hg.valid _ hm) (hf.rd _ hm) (ys := (x.take k).map (onlyC c)) (by rw [hl]; exact he) (by omega) (by omega)
      rw [hl] at j2
      refine ⟨_, j1, es', ?_, j2⟩
      rw [List.take_succ_eq_append_getElem hk, List.map_append]
      rfl)
    (fun s ⟨es, hs, _⟩ => by
      subst hs
      refine ⟨_, ?_, es, rfl⟩
      unfold F8_L1
      simp) 0 _ (Nat.zero_le _) ⟨es, rfl, h0⟩
  exact ⟨es', h1⟩

set_option maxHeartbeats 2000000 in
theorem el_L2 {n0 k j : Nat} {es : Store} {A W : List (Int × Int)} {c : Int} {u : Tok} {t15 t16 t17 : AV} (hk : k < A.length) (hA : A.length ≤ 1000000) (h0 : es[j]? = some (.tail W.length 3)) (hW : W.length ≤ 1000000) :
    ∃ es', F8_L2 call n0 (i64 c) t15 t16 t17 (.sl (flagRows A) u) (i64 A.length) (.sl (flagRows W) (.own (S.length + j))) (i64 (k : Int)) (Sr S i L a es) =
      some (.inl ([.sl (flagRows (if A[k].2 = c then W ++ [A[k]] else W)) (.own (S.length + j)), i64 ((k + 1 : Nat) : Int)], Sr S i L a es')) ∧ es'[j]? = some (.tail (if A[k].2 = c then W ++ [A[k]] else W).length 3) := by
  have hlt : (k : Int) < (A.length : Int) := by omega
  have hj : j < es.length := (List.getElem?_eq_some_iff.1 h0).1
  have hix : indexAV 3 none (.sl (flagRows A) u) (.int .i64 (k : Int)) = some (.ip (flagR A[k]) 0) := by simp [indexAV, at_nat, flagRows, hk, flagR]
  have w1 : IntKind.i64.wrap ((k : Int) + 1) = ((k + 1 : Nat) : Int) := by rw [wrap_in (by unfold In64; omega)]; omega
  have hl3 : takeC (some 3) (flagR A[k]) 0 = some (.agg (flagR A[k])) := rfl
  have hl1 : takeC none (flagR A[k]) 1 = some (i64 A[k].2) := rfl
  have him : imms (flagR A[k]) = some (flagR A[k]) := by simp [flagR]
  have hlen : (flagR A[k]).length = 3 := rfl
  have bs : bsliceV 3 [flagR A[k]] = some (.sl [flagR A[k]] .full) := by simp [bsliceV, immRows, flagR]
  have hS : (Sr S i L a es).length = S.length + es.length := Stt.length
  by_cases hc : A[k].2 = c
  · have ap := flag_app (S := S) (i := i) (L := L) (a := a) (f := A[k]) h0 hW
    obtain ⟨es', n1, n2⟩ := Stt.nextKeep (S := S) (i := i) (e := srcE L a) (es := es.set j (.tail (W.length + 1) 3)) (b := n0) (k := es.length) (vs := [.sl (flagRows (W ++ [A[k]])) (.own (S.length + j)), .int .i64 ((k + 1 : Nat) : Int)])
    refine ⟨es', ?_, by rw [n2 j hj, List.getElem?_set_self hj, if_pos hc]; simp⟩
    rw [if_pos hc]
    generalize flagRows (W ++ [A[k]]) = W' at *
    generalize flagR A[k] = R at *
    have hcb : (A[k].2 == c) = true := by simpa using hc
    unfold F8_L2 F8_J3
    simp only [hS]
    generalize A[k].2 = c2 at *
    repeat (first
      | rfl
      | refine cond_t (by rfl) ?_
      | refine cond_f (by rfl) ?_
      | refine ite_of (by first | rfl | assumption) ?_
      | refine bind_of (by simp [-loadV, -storeV, -Int.natCast_add, loadV_ip, hlt, hix, hl3, him, hl1, hcb, hlen, ap, ownV, w1, n1] <;> rfl) ?_)
  · obtain ⟨es', n1, n2⟩ := Stt.nextKeep (S := S) (i := i) (e := srcE L a) (es := es) (b := n0) (k := es.length) (vs := [.sl (flagRows W) (.own (S.length + j)), .int .i64 ((k + 1 : Nat) : Int)])
    refine ⟨es', ?_, by rw [n2 j hj, if_neg hc]; exact h0⟩
    rw [if_neg hc]
    have hcb : (A[k].2 == c) = false := by simpa using hc
    generalize flagR A[k] = R at *
    unfold F8_L2 F8_J3
    simp only [hS]
    generalize A[k].2 = c2 at *
    repeat (first
      | rfl
      | refine cond_t (by rfl) ?_
      | refine cond_f (by rfl) ?_
      | refine ite_of (by first | rfl | assumption) ?_
      | refine bind_of (by simp [-loadV, -storeV, -Int.natCast_add, loadV_ip, hlt, hix, hl3, him, hl1, hcb, w1, n1] <;> rfl) ?_)

theorem el_L2s {n0 j : Nat} {es : Store} {A : List (Int × Int)} {c : Int} {u : Tok} {t15 t16 t17 : AV} (hA : A.length ≤ 1000000) (h0 : es[j]? = some (.tail 0 3)) :
    ∃ es', iter (fun s => F8_L2 call n0 (i64 c) t15 t16 t17 (.sl (flagRows A) u) (i64 A.length) (s.1.getD 0 .u) (s.1.getD 1 .u) s.2) ([.sl [] (.own (S.length + j)), i64 0], Sr S i L a es) = some (.exit 2, [.sl (flagRows (A.filter fun f => f.2 == c)) (.own (S.length + j))], Sr S i L a es') := by
  obtain ⟨r, h1, es', rfl⟩ := iter_to (step := fun s => F8_L2 call n0 (i64 c) t15 t16 t17 (.sl (flagRows A) u) (i64 A.length) (s.1.getD 0 .u) (s.1.getD 1 .u) s.2)
    (fun k s => ∃ es, s = ([.sl (flagRows ((A.take k).filter fun f => f.2 == c)) (.own (S.length + j)), i64 (k : Int)], Sr S i L a es) ∧ es[j]? = some (.tail ((A.take k).filter fun f => f.2 == c).length 3))
    (fun r => ∃ es', r = (.exit 2, [.sl (flagRows (A.filter fun f => f.2 == c)) (.own (S.length + j))], Sr S i L a es')) A.length
    (fun k s hk ⟨es, hs, he⟩ => by
      subst hs
      have hW : ((A.take k).filter fun f => f.2 == c).length ≤ 1000000 := Nat.le_trans (List.length_filter_le _ _) (by simp; omega)
      obtain ⟨es', j1, j2⟩ := el_L2 (S := S) (i := i) (L := L) (a := a) (u := u) (t15 := t15) (t16 := t16) (t17 := t17) (n0 := n0) (c := c) hk hA he hW
      have e1 : (if A[k].2 = c then ((A.take k).filter fun f => f.2 == c) ++ [A[k]] else (A.take k).filter fun f => f.2 == c) = (A.take (k + 1)).filter fun f => f.2 == c := by
        rw [List.take_succ_eq_append_getElem hk, List.filter_append, List.filter_cons]
        by_cases hc : A[k].2 = c <;> simp [hc]
      rw [e1] at j1 j2
      exact ⟨_, j1, es', rfl, j2⟩)
    (fun s ⟨es, hs, _⟩ => by
      subst hs
      refine ⟨_, ?_, es, rfl⟩
      unfold F8_L2
      simp) 0 _ (Nat.zero_le _) ⟨es, rfl, h0⟩
  exact ⟨es', h1⟩

end

set_option maxHeartbeats 4000000 in
theorem el_law {code : Int} {L : List Int} (hL : ∀ n ∈ L, In64 n) :
    Ev (call 8 [.sl (ints L) .none, i64 code] []) fun r => r.1 = .bool true := by
  rw [k8]
  unfold F8
  obtain ⟨S1, L', hN, hs, hlen1⟩ := law_New L hL
  refine Ev.to rfl (Ev.to hN ?_)
  refine Ev.to rfl ?_
  refine Ev.bind ((g_Series (n := 9) (near := 14000000) 0 (by omega) (by omega)).at (by assumption)) ?_
  rintro _ ⟨v2, a2, k2, q2, rfl⟩
  try dsimp only
  obtain ⟨x, m', rfl, hx1, hx2⟩ := q2
  have hm0 : max2 0 (min2 52589999 14000000) = 14000000 := by decide
  rw [hm0] at hx2
  have hxhi := hx2.hi
  have hg : Abs.Good x := ser_good hx2 (by omega) (by omega)
  have hfx : Few x := ser_few hx2 hx1 (by omega)
  refine Ev.to rfl ?_
  refine Ev.bind ((g_Control 0).at (by assumption)) ?_
  rintro _ ⟨v3, a3, k3, q3, rfl⟩
  try dsimp only
  obtain ⟨k, rfl, hk⟩ := q3
  refine Ev.to (show imms (cellsOf (.agg (ctlC k))) = some (ctlC k) from imms_ctl k) (Ev.ite (ctl_length hk.fit) ?_)
  refine Ev.to rfl ?_
  refine Ev.bind (e_Mod (by omega) (by omega)) ?_
  rintro _ ⟨cm, c1, c2, rfl⟩
  try dsimp only
  have hw : IntKind.i64.wrap (1 + cm) = 1 + cm := wrap_in (by unfold In64; omega)
  refine Ev.to (a := i64 (1 + cm)) (by simp [hw]) ?_
  have ow : ownV 8 (.sl [] .full) (Sr S1 0 L' a3 []) = some (.sl [] (.own S1.length), Sr S1 0 L' a3 [.tail 0 8]) := by
    simp only [ownV, szOK, cond_true, Stt.length, Stt.app, List.length_nil, Nat.add_zero, List.nil_append]
  refine Ev.to ow (Ev.to (a := i64 x.length) (by simp) ?_)
  obtain ⟨es1, l1⟩ := el_L1s (S := S1) (i := 0) (L := L') (a := a3) (n0 := ([] : Store).length) (t6 := .sl (reps x) .none) (t7 := .ip (ctlC k) 0) (c := 1 + cm) (by simp) hg hfx (es := [.tail 0 8]) rfl
  refine Ev.to l1 ?_
  simp only [exK_exit, Nat.beq_refl, cond_true]
  have hg2 := onlyC_good (c := 1 + cm) hg
  have hf2 : Few (x.map (onlyC (1 + cm))) := ⟨by simpa using hfx.len, fun r hr => by
    obtain ⟨r0, h0, rfl⟩ := List.mem_map.1 hr
    exact Nat.le_trans (List.length_filter_le _ _) (hfx.rd r0 h0)⟩
  have he1 := examP_ok hg hk.steps hk.spikes
  have he2 := examP_ok hg2 hk.steps hk.spikes
  have hfl := onlyC_flags (c := 1 + cm) (k := k) hg
  obtain ⟨u1, C1⟩ := s_Check (t := .none) hk.fit hfx (Sr S1 0 L' a3 es1)
  obtain ⟨u2, C2⟩ := s_Check (t := .own S1.length) hk.fit hf2 (Sr S1 0 L' a3 es1)
  have fl1 : flagsP x k = refFlags x k x.length := by unfold flagsP; rw [if_pos he1]
  have fl2 : flagsP (x.map (onlyC (1 + cm))) k = (refFlags x k x.length).filter fun f => f.2 == 1 + cm := by unfold flagsP; rw [if_pos he2, hfl]
  have hfew := flagsP_few (k := k) hfx
  rw [fl1, he1] at C1
  rw [fl2, he2] at C2
  rw [fl1] at hfew
  have hl41 : takeC (some 41) (ctlC k) 0 = some (.agg (ctlC k)) := by
    rw [takeC, if_pos (by rw [ctl_length hk.fit]; omega), List.drop_zero, List.take_of_length_le (by rw [ctl_length hk.fit]; omega)]
  have him := imms_ctl k
  have ow3 : ownV 3 (.sl [] .full) (Sr S1 0 L' a3 es1) = some (.sl [] (.own (S1.length + es1.length)), Sr S1 0 L' a3 (es1 ++ [.tail 0 3])) := by
    simp only [ownV, szOK, cond_true, Stt.length, Stt.app, List.length_nil]
  generalize refFlags x k x.length = A at *
  obtain ⟨es2, l2⟩ := el_L2s (S := S1) (i := 0) (L := L') (a := a3) (n0 := ([] : Store).length) (j := es1.length) (es := es1 ++ [.tail 0 3]) (A := A) (c := 1 + cm) (u := u1) (t15 := i64 0) (t16 := .sl (flagRows (A.filter fun f => f.2 == 1 + cm)) u2) (t17 := i64 0) hfew (by simp)
  have rf := r_Flags (a := A.filter fun f => f.2 == 1 + cm) (b := A.filter fun f => f.2 == 1 + cm) (t := u2) (u := .own (S1.length + es1.length)) (Nat.le_trans (List.length_filter_le _ _) hfew) (Sr S1 0 L' a3 es2)
  simp only [decide_true] at rf
  have aw := s_awake (Sr S1 0 L' a3 es2)
  have hlen : lenV (.sl (flagRows A) u1) = some (i64 A.length) := by simp [flagRows]
  generalize flagRows (A.filter fun f => f.2 == 1 + cm) = B at *
  generalize flagRows A = A' at *
  generalize reps x = X at *
  generalize reps (x.map (onlyC (1 + cm))) = Y at *
  generalize ctlC k = K at *
  refine Ev.to (show loadV (some 41) (.ip K 0) _ = _ from hl41) ?_
  refine Ev.to (a := [.sl X .none, .agg K]) (by simp [him]) (Ev.to C1 (Ev.to rfl (Ev.to rfl ?_)))
  refine Ev.to (show loadV (some 41) (.ip K 0) _ = _ from hl41) ?_
  refine Ev.to (a := [.sl Y (.own S1.length), .agg K]) (by simp [him]) (Ev.to C2 (Ev.to rfl (Ev.to rfl ?_)))
  refine Ev.to ow3 (Ev.to hlen (Ev.to l2 ?_))
  simp only [exK_exit, Nat.beq_refl, cond_true]
  repeat (first
    | refine Ev.fin (by simp [rf, aw] <;> rfl) (by simp [rf, aw]) ?_
    | refine Ev.t (by rfl) ?_
    | refine Ev.f (by rfl) ?_
    | refine Ev.ite (by first | rfl | assumption) ?_
    | refine Ev.to (by simp (disch := omega) [-loadV, -storeV, -Int.natCast_add, loadV_ip, rf, aw] <;> rfl) ?_
    | refine Ev.to (by simp [-loadV, -storeV, -Int.natCast_add, loadV_ip, rf, aw] <;> rfl) ?_)
  exact ⟨(.bool true, (Sr S1 0 L' a3 es2).take ([] : Store).length), by simp, rfl⟩

theorem timelineElements_true (xs : List AV) (h : FitsAll Tryd.prog 8 Tryd.f8.params.toList xs) : ∃ S', call 8 xs [] = some (.bool true, S') := by
  have hp : Tryd.f8.params.toList = [26, 3] := by kernel_rfl
  rw [hp] at h
  obtain ⟨x1, x2, rfl, h1, h2⟩ := fitsAll2 h
  obtain ⟨L, rfl, _, hL⟩ := arg_ints h1
  obtain ⟨code, rfl, _⟩ := arg_int h2
  obtain ⟨⟨v, S'⟩, e, rfl⟩ := el_law (code := code) hL
  exact ⟨S', e⟩
end Go.Proofs.YtlilahgndpdkfaaDoor
