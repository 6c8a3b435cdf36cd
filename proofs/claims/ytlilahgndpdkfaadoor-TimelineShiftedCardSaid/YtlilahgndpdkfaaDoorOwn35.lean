/-
  Texts of this claim: TlLawSh, TlTimelineShiftedLaw.
-/
import Derived.Test.YtlilahgndpdkfaaDoorOwn16
import Derived.Test.YtlilahgndpdkfaaDoorOwn21
import Derived.Test.YtlilahgndpdkfaaDoorOwn33
set_option linter.all false
/-
  TimelineShifted: its rounds.
-/
namespace Go.Proofs.YtlilahgndpdkfaaDoor
open Go Go.Abs
set_option maxRecDepth 100000

/-- A report's cells, with this row. -/
def repW (r : Rep) (v : AV) : List AV := [i64 r.kind, .str r.name, i64 r.time, i64 r.face, i64 r.pa, i64 r.pb, i64 r.pc, v]

/-- The entries of a round: the report q that is made lies at jq, its readings so far are these. -/
structure ShE (S : Store) (n jq : Nat) (q : Rep) (rows : List Rd) (es : Store) (v : AV) : Prop where
  h0 : es[0]? = some (.tail n 8)
  h1 : 0 < jq
  hq : es[jq]? = some (.obj (repW q v))
  rd : (v = .sl [] .full ∧ rows = []) ∨ (∃ m, v = .sl (rds rows) (.own (S.length + m)) ∧ es[m]? = some (.tail rows.length 2))

section
variable {S : Store} {i : Nat} {L : List Int} {a : Nat}

theorem ShE.lt {n jq : Nat} {q : Rep} {rows : List Rd} {es : Store} {v : AV} (h : ShE S n jq q rows es v) : jq < es.length := (List.getElem?_eq_some_iff.1 h.hq).1

/-- One more reading. -/
theorem sh_J1 {n0 n jq j : Nat} {q : Rep} {rows : List Rd} {es : Store} {v : AV} (h : ShE S n jq q rows es v) (hn : n0 ≤ S.length) (hr : rows.length ≤ 1000) (hj : j ≤ 1000) (x : Rd) :
    ∃ es' v', F7_J1 call n0 (S.length + es.length) (.ptr (S.length + jq) 0) (.ptr (S.length + es.length) 0) (i64 (j : Int)) (Sr S i L a (es ++ [.obj [i64 x.1, i64 x.2]])) =
      some (.inl ([i64 ((j + 1 : Nat) : Int)], Sr S i L a es')) ∧ ShE S n jq q (rows ++ [x]) es' v' := by
  have hlt := h.lt
  have hjq := h.h1
  have hqc := h.hq
  have h0 := h.h0
  have w1 : IntKind.i64.wrap ((j : Int) + 1) = ((j + 1 : Nat) : Int) := by rw [wrap_in (by unfold In64; omega)]; omega
  have ldq := Stt.load (S := S) (i := i) (e := srcE L a) (k := jq) (o := 7) (n := none) (es := es ++ [.obj [i64 x.1, i64 x.2]]) (cs := repW q v) (by rw [List.getElem?_append_left hlt]; exact hqc)
  have hg7 : takeC none (repW q v) 7 = some v := rfl
  rw [hg7] at ldq
  -- the row, with a right of its own
  have own : ∃ E1 m, ownV 2 v (Sr S i L a (es ++ [.obj [i64 x.1, i64 x.2]])) = some (.sl (rds rows) (.own (S.length + m)), Sr S i L a E1) ∧ E1[m]? = some (.tail rows.length 2) ∧ (∀ k, k < es.length + 1 → E1[k]? = (es ++ [Ent.obj [i64 x.1, i64 x.2]])[k]?) ∧ (es.length ≤ m → m = es.length + 1) ∧ m ≠ es.length ∧ (es.length < m ∨ E1 = es ++ [.obj [i64 x.1, i64 x.2]]) := by
    rcases h.rd with ⟨rfl, rfl⟩ | ⟨m, rfl, hm⟩
    · refine ⟨es ++ [.obj [i64 x.1, i64 x.2]] ++ [.tail 0 2], es.length + 1, ?_, ?_, fun k hk => ?_, fun _ => rfl, by omega, .inl (by omega)⟩
      · simp only [ownV, szOK, cond_true, Stt.length, Stt.app, List.length_append, List.length_singleton, List.length_nil, rds_nil]
      · rw [List.getElem?_append_right (by simp)]; simp
      · rw [List.getElem?_append_left (by simpa using hk)]
    · have hm' : m < es.length := (List.getElem?_eq_some_iff.1 hm).1
      exact ⟨es ++ [.obj [i64 x.1, i64 x.2]], m, rfl, by rw [List.getElem?_append_left hm']; exact hm, fun k hk => rfl, fun hh => by omega, by omega, .inr rfl⟩
  obtain ⟨E1, m, o1, o2, o3, o4, o5, o6⟩ := own
  have hE1 : es.length + 1 ≤ E1.length := by
    have : E1[es.length]? = some (.obj [i64 x.1, i64 x.2]) := by rw [o3 _ (by omega)]; simp
    have := (List.getElem?_eq_some_iff.1 this).1
    omega
  have ldx := Stt.loadA (S := S) (i := i) (e := srcE L a) (k := es.length) (es := E1) (n := 2) (cs := [i64 x.1, i64 x.2]) (by rw [o3 _ (by omega)]; simp) rfl
  have ap := Stt.append (S := S) (i := i) (e := srcE L a) (k := m) (es := E1) (n := rows.length) (sz := 2) (xs := rds rows) (ys := [[i64 x.1, i64 x.2]]) (t := .full) o2 (by simp) rfl (by simp) (by simp [room]; omega)
  simp only [rds_length, List.length_singleton] at ap
  have e1 : rds rows ++ [[i64 x.1, i64 x.2]] = rds (rows ++ [x]) := by simp [rds]
  rw [e1] at ap
  have hmq : m ≠ jq := fun e => by
    subst e
    rw [o3 m (by omega), List.getElem?_append_left hlt, hqc] at o2
    cases o2
  have hm0 : m ≠ 0 := fun e => by
    subst e
    rw [o3 0 (by omega), List.getElem?_append_left (by omega), h0] at o2
    cases o2
  have hml : m < E1.length := (List.getElem?_eq_some_iff.1 o2).1
  have st := Stt.storeB (S := S) (i := i) (e := srcE L a) (b := n0) (k := jq) (es := E1.set m (.tail (rows.length + 1) 2)) (o := 7) (n := 1) (v := .sl (rds (rows ++ [x])) (.own (S.length + m))) (vs := [.sl (rds (rows ++ [x])) (.own (S.length + m))]) (cs := repW q v) (by omega) (by rw [List.getElem?_set_ne hmq, o3 _ (by omega), List.getElem?_append_left hlt]; exact hqc) rfl rfl (by simp [repW])
  have e2 : setC (repW q v) 7 [.sl (rds (rows ++ [x])) (.own (S.length + m))] = repW q (.sl (rds (rows ++ [x])) (.own (S.length + m))) := rfl
  rw [e2] at st
  -- what the next round begins with
  have nx : ∃ es', nextS n0 (S.length + es.length) [.int .i64 ((j + 1 : Nat) : Int)] (Sr S i L a ((E1.set m (.tail (rows.length + 1) 2)).set jq (.obj (repW q (.sl (rds (rows ++ [x])) (.own (S.length + m))))))) = some ([.int .i64 ((j + 1 : Nat) : Int)], Sr S i L a es') ∧
      es'[0]? = some (.tail n 8) ∧ es'[jq]? = some (.obj (repW q (.sl (rds (rows ++ [x])) (.own (S.length + m))))) ∧ es'[m]? = some (.tail (rows.length + 1) 2) := by
    have q1 : ((E1.set m (.tail (rows.length + 1) 2)).set jq (.obj (repW q (.sl (rds (rows ++ [x])) (.own (S.length + m))))))[0]? = some (.tail n 8) := by
      rw [List.getElem?_set_ne (by omega), List.getElem?_set_ne hm0, o3 0 (by omega), List.getElem?_append_left (by omega)]; exact h0
    have q2 : ((E1.set m (.tail (rows.length + 1) 2)).set jq (.obj (repW q (.sl (rds (rows ++ [x])) (.own (S.length + m))))))[jq]? = some (.obj (repW q (.sl (rds (rows ++ [x])) (.own (S.length + m))))) := by
      rw [List.getElem?_set_self (by simp; omega)]
    have q3 : ((E1.set m (.tail (rows.length + 1) 2)).set jq (.obj (repW q (.sl (rds (rows ++ [x])) (.own (S.length + m))))))[m]? = some (.tail (rows.length + 1) 2) := by
      rw [List.getElem?_set_ne (Ne.symm hmq), List.getElem?_set_self hml]
    by_cases hm : m < es.length
    · obtain ⟨es', n1, n2⟩ := Stt.nextKeep (S := S) (i := i) (e := srcE L a) (b := n0) (k := es.length) (es := (E1.set m (.tail (rows.length + 1) 2)).set jq (.obj (repW q (.sl (rds (rows ++ [x])) (.own (S.length + m)))))) (vs := [.int .i64 ((j + 1 : Nat) : Int)])
      exact ⟨es', n1, by rw [n2 0 (by omega)]; exact q1, by rw [n2 jq hlt]; exact q2, by rw [n2 m hm]; exact q3⟩
    · refine ⟨_, Stt.nextStay q2 hlt (by omega) ?_, q1, q2, q3⟩
      have : Nat.blt (S.length + m) (S.length + es.length) = false := blt_false (by omega)
      simp [repW, this]
  obtain ⟨es', n1, n2, n3, n4⟩ := nx
  refine ⟨es', _, ?_, n2, hjq, n3, .inr ⟨m, rfl, by rw [n4]; simp⟩⟩
  unfold F7_J1 F7_J2
  generalize repW q (.sl (rds (rows ++ [x])) (.own (S.length + m))) = Q at *
  generalize rds (rows ++ [x]) = R at *
  generalize rds rows = R0 at *
  repeat (first
    | rfl
    | refine cond_t (by rfl) ?_
    | refine cond_f (by rfl) ?_
    | refine ite_of (by first | rfl | assumption) ?_
    | refine bind_of (by simp [-loadV, -storeV, -Int.natCast_add, loadV_ip, ldq, o1, ldx, ap, st, w1, n1] <;> rfl) ?_)

set_option maxHeartbeats 2000000 in
theorem sh_L2 {n0 n jq j : Nat} {q : Rep} {rows l : List Rd} {es : Store} {v t12 t35 : AV} {d : Int} {t : Tok} (h : ShE S n jq q rows es v) (hn : n0 ≤ S.length) (hr : rows.length ≤ 1000) (hj : j < l.length) (hl : l.length ≤ 1000) (hv : validP l = 0) (hd : -20 ≤ d ∧ d ≤ 20) :
    ∃ es' v', F7_L2 call n0 (i64 d) t12 (.ptr (S.length + jq) 0) t35 (.sl (rds l) t) (i64 l.length) (i64 (j : Int)) (Sr S i L a es) =
      some (.inl ([i64 ((j + 1 : Nat) : Int)], Sr S i L a es')) ∧ ShE S n jq q (rows ++ [if (l[j]).1 = 1 then ((l[j]).1, (l[j]).2 + d) else l[j]]) es' v' := by
  have hlt : (j : Int) < (l.length : Int) := by omega
  have hix : indexAV 2 none (.sl (rds l) t) (.int .i64 (j : Int)) = some (.ip [i64 (l[j]).1, i64 (l[j]).2] 0) := by simp [indexAV, at_rds hj]
  have hap : Sr S i L a es ++ [Ent.obj [i64 (l[j]).1, i64 (l[j]).2]] = Sr S i L a (es ++ [.obj [i64 (l[j]).1, i64 (l[j]).2]]) := Stt.app
  have hlen : (Sr S i L a es).length = S.length + es.length := Stt.length
  have ld0 := Stt.load (S := S) (i := i) (e := srcE L a) (k := es.length) (o := 0) (n := none) (es := es ++ [.obj [i64 (l[j]).1, i64 (l[j]).2]]) (cs := [i64 (l[j]).1, i64 (l[j]).2]) (by simp)
  have ld1 := Stt.load (S := S) (i := i) (e := srcE L a) (k := es.length) (o := 1) (n := none) (es := es ++ [.obj [i64 (l[j]).1, i64 (l[j]).2]]) (cs := [i64 (l[j]).1, i64 (l[j]).2]) (by simp)
  have g0 : takeC none [i64 (l[j]).1, i64 (l[j]).2] 0 = some (i64 (l[j]).1) := rfl
  have g1 : takeC none [i64 (l[j]).1, i64 (l[j]).2] 1 = some (i64 (l[j]).2) := rfl
  rw [g0] at ld0
  rw [g1] at ld1
  have hb := checkP_zero ((validP_zero hv).1 _ (List.getElem_mem hj))
  have hb2 := lo_ge hb.1 hb.2.1
  have w1 : IntKind.i64.wrap ((l[j]).2 + d) = (l[j]).2 + d := wrap_in (by unfold In64; omega)
  by_cases hc : (l[j]).1 = 1
  · rw [if_pos hc]
    obtain ⟨es', v', j1, j2⟩ := sh_J1 (i := i) (L := L) (a := a) h hn hr (j := j) (by omega) ((l[j]).1, (l[j]).2 + d)
    refine ⟨es', v', ?_, j2⟩
    rw [← j1]
    have st := Stt.storeB (S := S) (i := i) (e := srcE L a) (b := n0) (k := es.length) (es := es ++ [.obj [i64 (l[j]).1, i64 (l[j]).2]]) (o := 1) (n := 1) (v := i64 ((l[j]).2 + d)) (vs := [i64 ((l[j]).2 + d)]) (cs := [i64 (l[j]).1, i64 (l[j]).2]) (by omega) (by simp) rfl rfl (by simp)
    have e2 : (es ++ [Ent.obj [i64 (l[j]).1, i64 (l[j]).2]]).set es.length (.obj (setC [i64 (l[j]).1, i64 (l[j]).2] 1 [i64 ((l[j]).2 + d)])) = es ++ [.obj [i64 (l[j]).1, i64 ((l[j]).2 + d)]] := by simp [setC]
    rw [e2] at st
    have hcb : ((l[j]).1 == 1) = true := by simpa using hc
    unfold F7_L2
    simp only [hlen]
    generalize (l[j]).1 = c at *
    generalize (l[j]).2 = z at *
    repeat (first
      | rfl
      | refine cond_t (by rfl) ?_
      | refine cond_f (by rfl) ?_
      | refine ite_of (by first | rfl | assumption) ?_
      | refine bind_of (by simp [-loadV, -storeV, -Int.natCast_add, loadV_ip, hlt, hix, hap, ld0, ld1, hcb, w1, st] <;> rfl) ?_)
  · rw [if_neg hc]
    obtain ⟨es', v', j1, j2⟩ := sh_J1 (i := i) (L := L) (a := a) h hn hr (j := j) (by omega) l[j]
    refine ⟨es', v', ?_, j2⟩
    rw [← j1, ← hap]
    have hcb : ((l[j]).1 == 1) = false := by simpa using hc
    unfold F7_L2
    simp only [hlen]
    generalize (l[j]).1 = c at *
    generalize (l[j]).2 = z at *
    repeat (first
      | rfl
      | refine cond_t (by rfl) ?_
      | refine cond_f (by rfl) ?_
      | refine ite_of (by first | rfl | assumption) ?_
      | refine bind_of (by simp [-loadV, -storeV, -Int.natCast_add, loadV_ip, hlt, hix, hap, ld0, hcb] <;> rfl) ?_)
end
end Go.Proofs.YtlilahgndpdkfaaDoor

/-
  TimelineShifted: the law answers true, whatever its arguments.
-/
namespace Go.Proofs.YtlilahgndpdkfaaDoor
open Go Go.Abs
set_option maxRecDepth 100000

section
variable {S : Store} {i : Nat} {L : List Int} {a : Nat}

theorem sh_L2s {n0 n jq : Nat} {q : Rep} {l : List Rd} {es : Store} {v t12 t35 : AV} {d : Int} {t : Tok} (h : ShE S n jq q [] es v) (hn : n0 ≤ S.length) (hl : l.length ≤ 1000) (hv : validP l = 0) (hd : -20 ≤ d ∧ d ≤ 20) :
    ∃ es' v', iter (fun s => F7_L2 call n0 (i64 d) t12 (.ptr (S.length + jq) 0) t35 (.sl (rds l) t) (i64 l.length) (s.1.getD 0 .u) s.2) ([i64 0], Sr S i L a es) = some (.exit 2, [], Sr S i L a es') ∧ ShE S n jq q (l.map fun x => if x.1 = 1 then (x.1, x.2 + d) else x) es' v' := by
  obtain ⟨r, h1, es', v', rfl, h2⟩ := iter_to (step := fun s => F7_L2 call n0 (i64 d) t12 (.ptr (S.length + jq) 0) t35 (.sl (rds l) t) (i64 l.length) (s.1.getD 0 .u) s.2)
    (fun j s => ∃ es v, s = ([i64 (j : Int)], Sr S i L a es) ∧ ShE S n jq q ((l.take j).map fun x => if x.1 = 1 then (x.1, x.2 + d) else x) es v)
    (fun r => ∃ es' v', r = (.exit 2, [], Sr S i L a es') ∧ ShE S n jq q (l.map fun x => if x.1 = 1 then (x.1, x.2 + d) else x) es' v') l.length
    (fun j s hj ⟨es, v, hs, he⟩ => by
      subst hs
      obtain ⟨es', v', j1, j2⟩ := sh_L2 (i := i) (L := L) (a := a) (t12 := t12) (t35 := t35) (t := t) he hn (by simp; omega) hj hl hv hd
      refine ⟨_, j1, es', v', rfl, ?_⟩
      rw [List.take_succ_eq_append_getElem hj, List.map_append]
      exact j2)
    (fun s ⟨es, v, hs, he⟩ => by
      subst hs
      rw [List.take_length] at he
      refine ⟨_, ?_, es, v, rfl, he⟩
      unfold F7_L2
      simp) 0 _ (Nat.zero_le _) ⟨es, v, rfl, h⟩
  exact ⟨es', v', h1, h2⟩

set_option maxHeartbeats 4000000 in
theorem sh_L1 {n0 k : Nat} {es : Store} {x ys : List Rep} {d t : Int} {t8 t9 : AV} (hn : n0 ≤ S.length) (hk : k < x.length) (hv : validP x[k].rd = 0) (hrd : x[k].rd.length ≤ 1000) (h0 : es[0]? = some (.tail ys.length 8)) (hl : ys.length ≤ 1000) (hx : x.length ≤ 1000) (hd : -20 ≤ d ∧ d ≤ 20) (ht : In64 (x[k].time + t)) :
    (validP (shiftR 1 d t x[k]).rd = 0 ∧ ∃ es', F7_L1 call n0 t8 t9 (i64 d) (i64 t) (.sl (reps x) .none) (i64 x.length) (.sl (reps ys) (.own S.length)) (i64 (k : Int)) (Sr S i L a es) =
        some (.inl ([.sl (reps (ys ++ [shiftR 1 d t x[k]])) (.own S.length), i64 ((k + 1 : Nat) : Int)], Sr S i L a es')) ∧ es'[0]? = some (.tail (ys.length + 1) 8)) ∨
      ∃ u S', F7_L1 call n0 t8 t9 (i64 d) (i64 t) (.sl (reps x) .none) (i64 x.length) (.sl (reps ys) (.own S.length)) (i64 (k : Int)) (Sr S i L a es) = some (.inr (.ret, [.bool true, u], S')) := by
  have hpos : 0 < es.length := (List.getElem?_eq_some_iff.1 h0).1
  have hlt : (k : Int) < (x.length : Int) := by omega
  have hix : indexAV 8 none (.sl (reps x) .none) (.int .i64 (k : Int)) = some (.ip (repR x[k]) 0) := by simp [indexAV, at_reps hk]
  generalize x[k] = r at *
  have hl8 : takeC (some 8) (repR r) 0 = some (.agg (repR r)) := rfl
  have hl7 : takeC none (repR r) 7 = some (.sl (rds r.rd) .none) := rfl
  have him : imms (repR r) = some (repR r) := imms_repR
  have hc1 : cells1 (repR r) = some (repR r) := by simp [repR]
  have hR8 : (repR r).length = 8 := rfl
  have hap : Sr S i L a es ++ [Ent.obj (repR r)] = Sr S i L a (es ++ [.obj (repR r)]) := Stt.app
  have hlen : (Sr S i L a es).length = S.length + es.length := Stt.length
  have ld2 := Stt.load (S := S) (i := i) (e := srcE L a) (es := es ++ [.obj (repR r)]) (k := es.length) (o := 2) (n := none) (cs := repR r) (by simp)
  have hl2 : takeC none (repR r) 2 = some (i64 r.time) := rfl
  rw [hl2] at ld2
  have w1 : IntKind.i64.wrap (r.time + t) = r.time + t := wrap_in ht
  let q : Rep := { r with time := r.time + t }
  have st1 : storeV n0 1 (.ptr (S.length + es.length) 2) (.int .i64 (r.time + t)) (Sr S i L a (es ++ [.obj (repR r)])) = some (Sr S i L a (es ++ [.obj (repW q (.sl (rds r.rd) .none))])) := by
    have := Stt.storeB (S := S) (i := i) (e := srcE L a) (es := es ++ [.obj (repR r)]) (b := n0) (k := es.length) (o := 2) (n := 1) (v := i64 (r.time + t)) (vs := [i64 (r.time + t)]) (cs := repR r) (by omega) (by simp) rfl rfl (by simp)
    rw [this]
    simp [setC, repR, repW, q]
  have st2 : storeV n0 1 (.ptr (S.length + es.length) 7) (.sl [] .full) (Sr S i L a (es ++ [.obj (repW q (.sl (rds r.rd) .none))])) = some (Sr S i L a (es ++ [.obj (repW q (.sl [] .full))])) := by
    have := Stt.storeB (S := S) (i := i) (e := srcE L a) (es := es ++ [.obj (repW q (.sl (rds r.rd) .none))]) (b := n0) (k := es.length) (o := 7) (n := 1) (v := .sl [] .full) (vs := [.sl [] .full]) (cs := repW q (.sl (rds r.rd) .none)) (by omega) (by simp) rfl rfl (by simp [repW])
    rw [this]
    simp [setC, repW]
  have hE : ShE S ys.length es.length q [] (es ++ [.obj (repW q (.sl [] .full))]) (.sl [] .full) := ⟨by rw [List.getElem?_append_left hpos]; exact h0, hpos, by simp, .inl ⟨rfl, rfl⟩⟩
  obtain ⟨es2, v2, l1, hE2⟩ := sh_L2s (i := i) (L := L) (a := a) (t12 := .sl (reps ys) (.own S.length)) (t35 := i64 (k : Int)) (l := r.rd) (t := .none) (d := d) hE hn hrd hv hd
  have hlv : lenV (.sl (rds r.rd) .none) = some (i64 r.rd.length) := by simp
  have ldq := Stt.load (S := S) (i := i) (e := srcE L a) (k := es.length) (o := 7) (n := none) hE2.hq
  have hg7 : takeC none (repW q v2) 7 = some v2 := rfl
  rw [hg7] at ldq
  have rd : (shiftR 1 d t r).rd = r.rd.map fun x => if x.1 = 1 then (x.1, x.2 + d) else x := rfl
  rw [← rd] at hE2
  have hrl : (shiftR 1 d t r).rd.length ≤ 1000 := by rw [rd]; simpa using hrd
  obtain ⟨tk, rfl⟩ : ∃ tk, v2 = .sl (rds (shiftR 1 d t r).rd) tk := by
    rcases hE2.rd with ⟨h1, h2⟩ | ⟨m, h1, _⟩
    · exact ⟨.full, by rw [h1, h2]; rfl⟩
    · exact ⟨_, h1⟩
  have va := r_Validate (l := (shiftR 1 d t r).rd) (t := tk) (by omega) (Sr S i L a es2)
  have aw := s_awake (Sr S i L a es2)
  have ld8 := Stt.loadA (S := S) (i := i) (e := srcE L a) (k := es.length) (n := 8) hE2.hq rfl
  have hci : imms (repW q (.sl (rds (shiftR 1 d t r).rd) tk)) = some (repR (shiftR 1 d t r)) := by simp [repW, repR, q, shiftR]
  have hcl : (repW q (.sl (rds (shiftR 1 d t r).rd) tk)).length = 8 := rfl
  have bs : bsliceV 8 [cellsOf (.agg (repW q (.sl (rds (shiftR 1 d t r).rd) tk)))] = some (.sl [repR (shiftR 1 d t r)] .full) := by
    simp only [bsliceV, immRows, cellsOf, hcl, if_true, hci, Option.bind_some]
  have ap := row_app (S := S) (i := i) (L := L) (a := a) (k := 0) (es := es2) (ys := ys) (r := shiftR 1 d t r) hE2.h0 hl
  rw [Nat.add_zero] at ap
  have wk : IntKind.i64.wrap ((k : Int) + 1) = ((k + 1 : Nat) : Int) := by rw [wrap_in (by unfold In64; omega)]; omega
  obtain ⟨es3, n1, n2⟩ := Stt.nextKeep (S := S) (i := i) (e := srcE L a) (es := es2.set 0 (.tail (ys.length + 1) 8)) (b := n0) (k := es.length) (vs := [.sl (reps (ys ++ [shiftR 1 d t r])) (.own S.length), .int .i64 ((k + 1 : Nat) : Int)])
  have hlt2 := hE2.lt
  have hpre : ∀ (R : Option ((List AV × Store) ⊕ (Ex × List AV × Store))), (iter (fun s => F7_L2 call n0 (i64 d) (.sl (reps ys) (.own S.length)) (.ptr (S.length + es.length) 0) (i64 (k : Int)) (.sl (rds r.rd) .none) (i64 r.rd.length) (s.1.getD 0 .u) s.2) ([i64 0], Sr S i L a (es ++ [.obj (repW q (.sl [] .full))])) = some (.exit 2, [], Sr S i L a es2)) →
      (((loadV none (.ptr (S.length + es.length) 7) (Sr S i L a es2)).bind fun v57 =>
          (argVs [v57]).bind fun v58 => (call 25 v58 (Sr S i L a es2)).bind fun v59 =>
          (binV .neq v59.1 (.int .i64 0)).bind fun v60 =>
          condK v60
            ((argVs []).bind fun v61 => (call 10 v61 v59.2).bind fun v62 =>
            some (.inr (.ret, [v62.1, .sl (reps ys) (.own S.length)], v62.2)))
            ((loadV (some 8) (.ptr (S.length + es.length) 0) v59.2).bind fun v63 =>
            (bsliceV 8 [cellsOf v63]).bind fun v64 =>
            (appendV 8 (.sl (reps ys) (.own S.length)) v64 v59.2).bind fun v65 =>
            (ownV 8 v65.1 v65.2).bind fun v66 =>
            (binV .add (i64 (k : Int)) (.int .i64 1)).bind fun v67 =>
            (nextS n0 (S.length + es.length) [v66.1, v67] v66.2).bind fun r => some (.inl r))) = R) →
      F7_L1 call n0 t8 t9 (i64 d) (i64 t) (.sl (reps x) .none) (i64 x.length) (.sl (reps ys) (.own S.length)) (i64 (k : Int)) (Sr S i L a es) = R := by
    intro R l1 hR
    rw [← hR]
    clear hR bs ld8 hci hcl ldq va aw n1 n2 ap hE2 hE
    generalize repW q (.sl [] .full) = W0 at *
    generalize repW q (.sl (rds r.rd) .none) = W1 at *
    generalize hD : (.sl (rds r.rd) .none : AV) = D at *
    generalize repR r = R0 at *
    unfold F7_L1
    simp only [hlen]
    refine bind_of (a := .bool true) (by simp [hlt]) (cond_t rfl ?_)
    refine bind_of hix (bind_of (show loadV (some 8) (.ip R0 0) _ = _ from hl8) (bind_of (show imms (cellsOf (.agg R0)) = _ from him) (ite_of hR8 ?_)))
    refine bind_of (show loadV (some 8) (.ip R0 0) _ = _ from hl8) (bind_of (show cells1 (cellsOf (.agg R0)) = _ from hc1) (ite_of hR8 ?_))
    rw [hap]
    refine bind_of rfl (bind_of ld2 (bind_of (a := .int .i64 (r.time + t)) (by simp [w1]) (bind_of rfl (bind_of st1 (bind_of rfl (bind_of st2 (bind_of rfl ?_)))))))
    refine bind_of (show loadV none (.ip R0 (0 + 7)) _ = _ from hl7) (bind_of hlv ?_)
    refine bind_of l1 ?_
    simp only [exK_exit, Nat.beq_refl, cond_true]
    rfl
  by_cases hval : validP (shiftR 1 d t r).rd = 0
  · refine .inl ⟨hval, es3, ?_, by rw [n2 0 hpos, List.getElem?_set_self (by omega)]⟩
    refine hpre _ l1 ?_
    rw [hval] at va
    generalize repW q (.sl (rds (shiftR 1 d t r).rd) tk) = W at *
    refine bind_of ldq (bind_of rfl (bind_of va (bind_of rfl (cond_f rfl ?_))))
    refine bind_of ld8 (bind_of bs (bind_of ap ?_))
    repeat (first
      | rfl
      | refine cond_t (by rfl) ?_
      | refine cond_f (by rfl) ?_
      | refine ite_of (by first | rfl | assumption) ?_
      | refine bind_of (by simp [-loadV, -storeV, -Int.natCast_add, loadV_ip, ownV, wk, n1] <;> rfl) ?_)
  · refine .inr ⟨.sl (reps ys) (.own S.length), Sr S i L a es2, hpre _ l1 ?_⟩
    refine bind_of ldq (bind_of rfl (bind_of va (bind_of (a := .bool true) (by simp [hval]) (cond_t rfl ?_))))
    exact bind_of (a := []) rfl (bind_of aw rfl)

theorem sh_L1s {n0 : Nat} {es : Store} {x : List Rep} {d t : Int} {t8 t9 : AV} (hn : n0 ≤ S.length) (hg : Abs.Good x) (hf : Few x) (h0 : es[0]? = some (.tail 0 8)) (hd : -20 ≤ d ∧ d ≤ 20) (ht : 0 ≤ t ∧ t ≤ 1000000) :
    (∃ es', (∀ r ∈ x, validP (shiftR 1 d t r).rd = 0) ∧ iter (fun s => F7_L1 call n0 t8 t9 (i64 d) (i64 t) (.sl (reps x) .none) (i64 x.length) (s.1.getD 0 .u) (s.1.getD 1 .u) s.2) ([.sl [] (.own S.length), i64 0], Sr S i L a es) = some (.exit 0, [.u, .sl (reps (x.map (shiftR 1 d t))) (.own S.length)], Sr S i L a es')) ∨
      ∃ u S', iter (fun s => F7_L1 call n0 t8 t9 (i64 d) (i64 t) (.sl (reps x) .none) (i64 x.length) (s.1.getD 0 .u) (s.1.getD 1 .u) s.2) ([.sl [] (.own S.length), i64 0], Sr S i L a es) = some (.ret, [.bool true, u], S') := by
  have hx := hf.len
  obtain ⟨r, h1, h2⟩ := Ev.iter (step := fun s => F7_L1 call n0 t8 t9 (i64 d) (i64 t) (.sl (reps x) .none) (i64 x.length) (s.1.getD 0 .u) (s.1.getD 1 .u) s.2)
    (Q := fun r => (∃ es', (∀ r ∈ x, validP (shiftR 1 d t r).rd = 0) ∧ r = (.exit 0, [.u, .sl (reps (x.map (shiftR 1 d t))) (.own S.length)], Sr S i L a es')) ∨ ∃ u S', r = (.ret, [.bool true, u], S'))
    (fun m s => ∃ (k : Nat) (es : Store), k + m = x.length ∧ s = ([.sl (reps ((x.take k).map (shiftR 1 d t))) (.own S.length), i64 (k : Int)], Sr S i L a es) ∧ es[0]? = some (.tail k 8) ∧ ∀ r ∈ x.take k, validP (shiftR 1 d t r).rd = 0)
    (fun m s ⟨k, es, hk, hs, he, hall⟩ => by
      subst hs
      by_cases hkx : k < x.length
      · have hl : ((x.take k).map (shiftR 1 d t)).length = k := by simp; omega
        have hm := List.getElem_mem hkx
        have htm := hg.time _ hm
        rcases sh_L1 (S := S) (i := i) (L := L) (a := a) (t8 := t8) (t9 := t9) (n0 := n0) (d := d) (t := t) hn hkx (hg.valid _ hm) (hf.rd _ hm) (ys := (x.take k).map (shiftR 1 d t)) (by rw [hl]; exact he) (by omega) (by omega) hd (by unfold In64; omega) with ⟨j0, es', j1, j2⟩ | ⟨u, S', j1⟩
        · rw [hl] at j2
          refine ⟨_, j1, ?_⟩
          refine ⟨m - 1, by omega, k + 1, es', by omega, ?_, j2, ?_⟩
          · rw [List.take_succ_eq_append_getElem hkx, List.map_append]; rfl
          · rw [List.take_succ_eq_append_getElem hkx]
            intro r hr
            rcases List.mem_append.1 hr with hr | hr
            · exact hall r hr
            · obtain rfl := List.mem_singleton.1 hr; exact j0
        · refine ⟨_, j1, ?_⟩
          exact Or.inr ⟨u, S', rfl⟩
      · obtain rfl : k = x.length := by omega
        rw [List.take_length] at hall ⊢
        refine ⟨.inr (.exit 0, [.u, .sl (reps (x.map (shiftR 1 d t))) (.own S.length)], Sr S i L a es), ?_, Or.inl ⟨es, hall, rfl⟩⟩
        unfold F7_L1
        simp) (k := x.length) ⟨0, es, by omega, rfl, h0, by simp⟩
  rcases h2 with ⟨es', h3, rfl⟩ | ⟨u, S', rfl⟩
  · exact .inl ⟨es', h3, h1⟩
  · exact .inr ⟨u, S', h1⟩
end

set_option maxHeartbeats 4000000 in
theorem sh_law {by_ later : Int} {L : List Int} (hL : ∀ n ∈ L, In64 n) :
    Ev (call 7 [.sl (ints L) .none, i64 by_, i64 later] []) fun r => r.1 = .bool true := by
  rw [k7]
  unfold F7
  obtain ⟨S1, L', hN, hs, hlen1⟩ := law_New L hL
  refine Ev.to rfl (Ev.to hN ?_)
  refine Ev.to rfl ?_
  refine Ev.bind ((g_Series (n := 9) (near := 14000000) 0 (by omega) (by omega)).at (by assumption)) ?_
  rintro _ ⟨v2, a2, k2, q2, rfl⟩
  try dsimp only
  obtain ⟨x, m', rfl, hx1, hx2⟩ := q2
  have hm0 : max2 0 (min2 52589999 14000000) = 14000000 := by decide
  rw [hm0] at hx2
  have hxhi := hx2.hi
  have hg : Abs.Good x := ser_good hx2 (by omega) (by omega)
  have hfx : Few x := ser_few hx2 hx1 (by omega)
  refine Ev.to rfl ?_
  refine Ev.bind ((g_Control 0).at (by assumption)) ?_
  rintro _ ⟨v3, a3, k3, q3, rfl⟩
  try dsimp only
  obtain ⟨k, rfl, hk⟩ := q3
  refine Ev.to (show imms (cellsOf (.agg (ctlC k))) = some (ctlC k) from imms_ctl k) (Ev.ite (ctl_length hk.fit) ?_)
  refine Ev.to rfl ?_
  refine Ev.bind (e_Mod (by omega) (by omega)) ?_
  rintro _ ⟨d1, c1, c2, rfl⟩
  try dsimp only
  have hw : IntKind.i64.wrap (d1 - 20) = d1 - 20 := wrap_in (by unfold In64; omega)
  refine Ev.to (a := i64 (d1 - 20)) (by simp [hw]) ?_
  refine Ev.to rfl ?_
  refine Ev.bind (e_Mod (by omega) (by omega)) ?_
  rintro _ ⟨t1, c3, c4, rfl⟩
  try dsimp only
  have ow : ownV 8 (.sl [] .full) (Sr S1 0 L' a3 []) = some (.sl [] (.own S1.length), Sr S1 0 L' a3 [.tail 0 8]) := by
    simp only [ownV, szOK, cond_true, Stt.length, Stt.app, List.length_nil, Nat.add_zero, List.nil_append]
  refine Ev.to ow (Ev.to (a := i64 x.length) (by simp) ?_)
  rcases sh_L1s (S := S1) (i := 0) (L := L') (a := a3) (n0 := ([] : Store).length) (t8 := .sl (reps x) .none) (t9 := .ip (ctlC k) 0) (d := d1 - 20) (t := t1) (by simp) hg hfx (es := [.tail 0 8]) rfl (by omega) (by omega) with ⟨es1, hval, l1⟩ | ⟨u, S', l1⟩
  · refine Ev.to l1 ?_
    simp only [exK_exit, Nat.beq_refl, cond_true]
    have hg2 := shift_good (c := 1) (d := d1 - 20) (t := t1) hg hval (fun r hr => by
      have := (hx2.rep r hr).2.2.2
      omega)
    have hf2 : Few (x.map (shiftR 1 (d1 - 20) t1)) := ⟨by simpa using hfx.len, fun r hr => by
      obtain ⟨r0, h0, rfl⟩ := List.mem_map.1 hr
      simpa [shiftR] using hfx.rd r0 h0⟩
    have he1 := examP_ok hg hk.steps hk.spikes
    have he2 := examP_ok hg2 hk.steps hk.spikes
    have hfl := shift_flags (c := 1) (d := d1 - 20) (t := t1) (k := k) hg
    obtain ⟨u1, C1⟩ := s_Check (t := .none) hk.fit hfx (Sr S1 0 L' a3 es1)
    obtain ⟨u2, C2⟩ := s_Check (t := .own S1.length) hk.fit hf2 (Sr S1 0 L' a3 es1)
    have fl1 : flagsP x k = refFlags x k x.length := by unfold flagsP; rw [if_pos he1]
    have fl2 : flagsP (x.map (shiftR 1 (d1 - 20) t1)) k = refFlags x k x.length := by unfold flagsP; rw [if_pos he2, hfl]
    have hfew := flagsP_few (k := k) hfx
    rw [fl1, he1] at C1
    rw [fl2, he2] at C2
    rw [fl1] at hfew
    have hl41 : takeC (some 41) (ctlC k) 0 = some (.agg (ctlC k)) := by
      rw [takeC, if_pos (by rw [ctl_length hk.fit]; omega), List.drop_zero, List.take_of_length_le (by rw [ctl_length hk.fit]; omega)]
    have him := imms_ctl k
    have rf := r_Flags (a := refFlags x k x.length) (b := refFlags x k x.length) (t := u1) (u := u2) hfew (Sr S1 0 L' a3 es1)
    simp only [decide_true] at rf
    have aw := s_awake (Sr S1 0 L' a3 es1)
    generalize flagRows (refFlags x k x.length) = B at *
    generalize reps x = X at *
    generalize reps (x.map (shiftR 1 (d1 - 20) t1)) = Y at *
    generalize ctlC k = K at *
    refine Ev.to (show loadV (some 41) (.ip K 0) _ = _ from hl41) ?_
    refine Ev.to (a := [.sl X .none, .agg K]) (by simp [him]) (Ev.to C1 (Ev.to rfl (Ev.to rfl ?_)))
    refine Ev.to (show loadV (some 41) (.ip K 0) _ = _ from hl41) ?_
    refine Ev.to (a := [.sl Y (.own S1.length), .agg K]) (by simp [him]) (Ev.to C2 (Ev.to rfl (Ev.to rfl ?_)))
    repeat (first
      | refine Ev.fin (by simp [rf, aw] <;> rfl) (by simp [rf, aw]) ?_
      | refine Ev.t (by rfl) ?_
      | refine Ev.f (by rfl) ?_
      | refine Ev.ite (by first | rfl | assumption) ?_
      | refine Ev.to (by simp (disch := omega) [-loadV, -storeV, -Int.natCast_add, loadV_ip, rf, aw] <;> rfl) ?_
      | refine Ev.to (by simp [-loadV, -storeV, -Int.natCast_add, loadV_ip, rf, aw] <;> rfl) ?_)
    exact ⟨(.bool true, (Sr S1 0 L' a3 es1).take ([] : Store).length), by simp, rfl⟩
  · refine Ev.to l1 ?_
    simp only [exK_ret]
    exact ⟨(.bool true, S'.take ([] : Store).length), by simp, rfl⟩

theorem timelineShifted_true (xs : List AV) (h : FitsAll Tryd.prog 8 Tryd.f7.params.toList xs) : ∃ S', call 7 xs [] = some (.bool true, S') := by
  have hp : Tryd.f7.params.toList = [26, 3, 3] := by kernel_rfl
  rw [hp] at h
  obtain ⟨x1, x2, x3, rfl, h1, h2, h3⟩ := fitsAll3 h
  obtain ⟨L, rfl, _, hL⟩ := arg_ints h1
  obtain ⟨b, rfl, _⟩ := arg_int h2
  obtain ⟨l, rfl, _⟩ := arg_int h3
  obtain ⟨⟨v, S'⟩, e, rfl⟩ := sh_law (by_ := b) (later := l) hL
  exact ⟨S', e⟩
end Go.Proofs.YtlilahgndpdkfaaDoor
