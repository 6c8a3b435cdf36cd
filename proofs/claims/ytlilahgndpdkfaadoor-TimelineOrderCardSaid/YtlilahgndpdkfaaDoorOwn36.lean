/-
  Texts of this claim: TlLawOr, TlTimelineOrderLaw.
-/
import Derived.Test.YtlilahgndpdkfaaDoorOwn16
import Derived.Test.YtlilahgndpdkfaaDoorOwn22
import Derived.Test.YtlilahgndpdkfaaDoorOwn34
set_option linter.all false
/-
  TimelineOrder: its rounds.
-/
namespace Go.Proofs.YtlilahgndpdkfaaDoor
open Go Go.Abs
set_option maxRecDepth 100000

theorem at_flags {F : List (Int × Int)} {u : Tok} {k : Nat} (h : k < F.length) : indexAV 3 none (.sl (flagRows F) u) (.int .i64 (k : Int)) = some (.ip (flagR F[k]) 0) := by simp [indexAV, at_nat, flagRows, h, flagR]

theorem s_hasF {F : List (Int × Int)} {f : Int × Int} {u : Tok} (hF : F.length ≤ 1000000) (S : Store) : call 21 [.sl (flagRows F) u, .agg (flagR f)] S = some (.bool (decide (f ∈ F)), S) := by
  rw [k21]
  unfold F21
  have him : ∀ g : Int × Int, imms (flagR g) = some (flagR g) := fun g => by simp [flagR]
  have hl3 : ∀ g : Int × Int, takeC (some 3) (flagR g) 0 = some (.agg (flagR g)) := fun g => rfl
  have key := iter_scan (step := fun s => F21_L1 call S.length (.ip (flagR f) 0) (.sl (flagRows F) u) (i64 F.length) (s.1.getD 0 .u) s.2) (S := S) (fun k => F.getD k (0, 0) == f) (rT := fun _ => (Ex.ret, [.bool true], S)) (rE := (Ex.exit 0, [.u], S)) F.length 0
    (fun k _ hk => by
      have hk : k < F.length := by omega
      have hlt : (k : Int) < (F.length : Int) := by omega
      have hg : F.getD k (0, 0) = F[k] := by rw [List.getD_eq_getElem?_getD, List.getElem?_eq_getElem hk]; rfl
      rw [hg]
      have hix := at_flags (u := u) hk
      have w1 : IntKind.i64.wrap ((k : Int) + 1) = (k : Int) + 1 := wrap_in (by unfold In64; omega)
      have h1 := hl3 F[k]
      have h2 := him F[k]
      have h3 := hl3 f
      have hlen : (flagR F[k]).length = 3 := rfl
      have heq : eqcV false [0, 0, 0] (.agg (flagR f)) (.agg (flagR F[k])) = some (.bool (F[k] == f)) := by
        simp only [eqcV, flagR, eqs, eq1, if_true, Option.bind_some, beq_self_eq_true, Bool.and_true]
        congr 2
        rw [Bool.eq_iff_iff]
        simp only [bne_iff_ne, ne_eq, Bool.not_eq_false, Bool.and_eq_true, beq_iff_eq]
        constructor
        · rintro ⟨a, b⟩; exact Prod.ext a.symm b.symm
        · intro e; rw [e]; exact ⟨rfl, rfl⟩
      cases hb : F[k] == f with
      | true =>
        rw [hb] at heq
        generalize flagR F[k] = A at *
        generalize flagR f = B at *
        unfold F21_L1
        simp only [if_true]
        refine bind_of (a := .bool true) (by simp [hlt]) (cond_t rfl (bind_of hix (bind_of (show loadV (some 3) (.ip A 0) S = _ from h1) (bind_of (show imms (cellsOf (.agg A)) = _ from h2) (ite_of hlen ?_)))))
        exact bind_of (show loadV (some 3) (.ip B 0) S = _ from h3) (bind_of (show loadV (some 3) (.ip A 0) S = _ from h1) (bind_of heq (cond_t rfl rfl)))
      | false =>
        rw [hb] at heq
        generalize flagR F[k] = A at *
        generalize flagR f = B at *
        unfold F21_L1
        simp only [Bool.false_eq_true, if_false]
        refine bind_of (a := .bool true) (by simp [hlt]) (cond_t rfl (bind_of hix (bind_of (show loadV (some 3) (.ip A 0) S = _ from h1) (bind_of (show imms (cellsOf (.agg A)) = _ from h2) (ite_of hlen ?_)))))
        refine bind_of (show loadV (some 3) (.ip B 0) S = _ from h3) (bind_of (show loadV (some 3) (.ip A 0) S = _ from h1) (bind_of heq (cond_f rfl ?_)))
        refine bind_of (a := .int .i64 ((k : Int) + 1)) (by simp [w1]) (bind_of nextS_same rfl))
    (by simp [F21_L1])
  have hlen : lenV (.sl (flagRows F) u) = some (i64 F.length) := by simp [flagRows]
  simp only [Int.natCast_zero, i64] at key
  refine bind_of (show imms (cellsOf (.agg (flagR f))) = _ from him f) (bind_of hlen ?_)
  rcases key with ⟨k, k1, k2, k3, k4, k5⟩ | ⟨k1, k2⟩
  · refine bind_of k5 ?_
    have hk : k < F.length := by omega
    rw [List.getD_eq_getElem?_getD, List.getElem?_eq_getElem hk, Option.getD_some, beq_iff_eq] at k3
    have hm : f ∈ F := by rw [← k3]; exact List.getElem_mem hk
    simp [finish, hm]
  · refine bind_of k2 ?_
    have hm : f ∉ F := fun hf => by
      obtain ⟨k, hk, rfl⟩ := List.getElem_of_mem hf
      have := k1 k (Nat.zero_le _) (by omega)
      rw [List.getD_eq_getElem?_getD, List.getElem?_eq_getElem hk] at this
      simp at this
    simp [finish, hm]

section
variable {S : Store} {i : Nat} {L : List Int} {a : Nat}

/-- What has come so far of the three rows. -/
structure OrE (n1 n2 n3 : Nat) (es : Store) : Prop where
  e0 : es[0]? = some (.tail n1 8)
  e1 : es[1]? = some (.tail n2 8)
  e2 : es[2]? = some (.tail n3 1)

theorem OrE.len {n1 n2 n3 : Nat} {es : Store} (h : OrE n1 n2 n3 es) : 3 ≤ es.length := by
  have := (List.getElem?_eq_some_iff.1 h.e2).1
  omega

theorem OrE.keep {n1 n2 n3 : Nat} {es es' : Store} (h : OrE n1 n2 n3 es) {k : Nat} (hk : 3 ≤ k) (he : ∀ j, j < k → es'[j]? = es[j]?) : OrE n1 n2 n3 es' :=
  ⟨by rw [he 0 (by omega)]; exact h.e0, by rw [he 1 (by omega)]; exact h.e1, by rw [he 2 (by omega)]; exact h.e2⟩

theorem OrE.set0 {n1 n2 n3 m : Nat} {es : Store} (h : OrE n1 n2 n3 es) : OrE m n2 n3 (es.set 0 (.tail m 8)) := by
  have := h.len
  exact ⟨by rw [List.getElem?_set_self (by omega)], by rw [List.getElem?_set_ne (by omega)]; exact h.e1, by rw [List.getElem?_set_ne (by omega)]; exact h.e2⟩
theorem OrE.set1 {n1 n2 n3 m : Nat} {es : Store} (h : OrE n1 n2 n3 es) : OrE n1 m n3 (es.set 1 (.tail m 8)) := by
  have := h.len
  exact ⟨by rw [List.getElem?_set_ne (by omega)]; exact h.e0, by rw [List.getElem?_set_self (by omega)], by rw [List.getElem?_set_ne (by omega)]; exact h.e2⟩
theorem OrE.set2 {n1 n2 n3 m : Nat} {es : Store} (h : OrE n1 n2 n3 es) : OrE n1 n2 m (es.set 2 (.tail m 1)) := by
  have := h.len
  exact ⟨by rw [List.getElem?_set_ne (by omega)]; exact h.e0, by rw [List.getElem?_set_ne (by omega)]; exact h.e1, by rw [List.getElem?_set_self (by omega)]⟩

set_option maxHeartbeats 1000000 in
theorem or_L1 {n0 k n2 n3 : Nat} {es : Store} {x ys : List Rep} {o : List Nat} {t5 t6 t8 t9 : AV} {u : Tok} (ho : o.length ≤ 1000) (hk : k < o.length) (hj : o[k] < x.length) (he : OrE ys.length n2 n3 es) (hl : ys.length ≤ 1000) :
    ∃ es', F4_L1 call n0 (.sl (reps x) .none) t5 t6 t8 t9 (.sl (nats o) u) (i64 o.length) (.sl (reps ys) (.own S.length)) (i64 (k : Int)) (Sr S i L a es) =
      some (.inl ([.sl (reps (ys ++ [x[o[k]]])) (.own S.length), i64 ((k + 1 : Nat) : Int)], Sr S i L a es')) ∧ OrE (ys.length + 1) n2 n3 es' := by
  have hlt : (k : Int) < (o.length : Int) := by omega
  have h3 := he.len
  have hix1 : indexAV 1 none (.sl (nats o) u) (.int .i64 (k : Int)) = some (.ip [i64 ((o[k] : Nat) : Int)] 0) := by simp [indexAV, at_nats hk]
  have hix2 : indexAV 8 none (.sl (reps x) .none) (i64 ((o[k] : Nat) : Int)) = some (.ip (repR x[o[k]]) 0) := by simp [indexAV, at_reps hj]
  have hl8 : takeC (some 8) (repR x[o[k]]) 0 = some (.agg (repR x[o[k]])) := rfl
  have bs : bsliceV 8 [cellsOf (.agg (repR x[o[k]]))] = some (.sl [repR x[o[k]]] .full) := by simp [bsliceV, immRows]
  have ap := row_app (S := S) (i := i) (L := L) (a := a) (k := 0) (es := es) (ys := ys) (r := x[o[k]]) he.e0 hl
  rw [Nat.add_zero] at ap
  have w1 : IntKind.i64.wrap ((k : Int) + 1) = ((k + 1 : Nat) : Int) := by rw [wrap_in (by unfold In64; omega)]; omega
  obtain ⟨es', n1, nk⟩ := Stt.nextKeep (S := S) (i := i) (e := srcE L a) (es := es.set 0 (.tail (ys.length + 1) 8)) (b := n0) (k := es.length) (vs := [.sl (reps (ys ++ [x[o[k]]])) (.own S.length), .int .i64 ((k + 1 : Nat) : Int)])
  refine ⟨es', ?_, he.set0.keep h3 nk⟩
  have hlen : (Sr S i L a es).length = S.length + es.length := Stt.length
  unfold F4_L1
  simp only [hlen]
  generalize repR x[o[k]] = R at *
  refine bind_of (a := .bool true) (by simp [hlt]) (cond_t rfl (bind_of hix1 (bind_of (a := i64 ((o[k] : Nat) : Int)) rfl (bind_of hix2 (bind_of (show loadV (some 8) (.ip R 0) _ = _ from hl8) (bind_of bs (bind_of ap (bind_of rfl ?_))))))))
  exact bind_of (a := .int .i64 ((k + 1 : Nat) : Int)) (by simp [w1]) (bind_of n1 rfl)

def nA : List UInt8 := [65, 76, 80, 72, 65]
/-- The reports with that name among the first k. -/
def idxA (x : List Rep) (k : Nat) : List Nat := (List.range k).filter fun j => (x[j]?).any fun r => r.name == nA

theorem idxA_succ (x : List Rep) {k : Nat} (hk : k < x.length) : idxA x (k + 1) = if x[k].name = nA then idxA x k ++ [k] else idxA x k := by
  unfold idxA
  rw [List.range_succ, List.filter_append, List.filter_cons, List.getElem?_eq_getElem hk]
  by_cases h : x[k].name = nA <;> simp [h]
theorem idxA_le (x : List Rep) (k : Nat) : (idxA x k).length ≤ k := by
  refine Nat.le_trans (List.length_filter_le _ _) ?_
  simp
theorem idxA_lt {x : List Rep} {k j : Nat} (h : j ∈ idxA x k) : j < k ∧ j < x.length := by
  unfold idxA at h
  rw [List.mem_filter, List.mem_range] at h
  refine ⟨h.1, ?_⟩
  cases hx : x[j]? with
  | none => rw [hx] at h; simp at h
  | some r => exact (List.getElem?_eq_some_iff.1 hx).1

theorem nat_app {k : Nat} {es : Store} {o : List Nat} {j : Nat} (h0 : es[k]? = some (.tail o.length 1)) (hl : o.length ≤ 1000) :
    appendV 1 (.sl (nats o) (.own (S.length + k))) (.sl [[i64 (j : Int)]] .full) (Sr S i L a es) = some (.sl (nats (o ++ [j])) (.own (S.length + k)), Sr S i L a (es.set k (.tail (o.length + 1) 1))) := by
  have := Stt.append (S := S) (i := i) (e := srcE L a) (es := es) (k := k) (n := o.length) (sz := 1) (xs := nats o) (ys := [[i64 (j : Int)]]) (t := .full) h0 (by simp) rfl (by simp) (by simp [room]; omega)
  rw [this]
  simp [nats, ints]

set_option maxHeartbeats 1000000 in
theorem or_L2 {n0 k n1 : Nat} {es : Store} {x : List Rep} {t5 t6 t7 : AV} (hx : x.length ≤ 1000) (hk : k < x.length) (he : OrE n1 (idxA x k).length (idxA x k).length es) :
    ∃ es', F4_L2 call n0 (.sl (reps x) .none) t5 t6 t7 (i64 x.length) (.sl (reps (pickL x (idxA x k))) (.own (S.length + 1))) (.sl (nats (idxA x k)) (.own (S.length + 2))) (i64 (k : Int)) (Sr S i L a es) =
      some (.inl ([.sl (reps (pickL x (idxA x (k + 1)))) (.own (S.length + 1)), .sl (nats (idxA x (k + 1))) (.own (S.length + 2)), i64 ((k + 1 : Nat) : Int)], Sr S i L a es')) ∧ OrE n1 (idxA x (k + 1)).length (idxA x (k + 1)).length es' := by
  have hlt : (k : Int) < (x.length : Int) := by omega
  have h3 := he.len
  have hle := idxA_le x k
  have hpl : (pickL x (idxA x k)).length = (idxA x k).length := pickL_length fun j hj => (idxA_lt hj).2
  have hix : indexAV 8 none (.sl (reps x) .none) (.int .i64 (k : Int)) = some (.ip (repR x[k]) 0) := by simp [indexAV, at_reps hk]
  have hl8 : takeC (some 8) (repR x[k]) 0 = some (.agg (repR x[k])) := rfl
  have hl1 : takeC none (repR x[k]) (0 + 1) = some (.str x[k].name) := rfl
  have bs : bsliceV 8 [cellsOf (.agg (repR x[k]))] = some (.sl [repR x[k]] .full) := by simp [bsliceV, immRows]
  have w1 : IntKind.i64.wrap ((k : Int) + 1) = ((k + 1 : Nat) : Int) := by rw [wrap_in (by unfold In64; omega)]; omega
  have hlen : (Sr S i L a es).length = S.length + es.length := Stt.length
  by_cases hn : x[k].name = nA
  · have e1 : idxA x (k + 1) = idxA x k ++ [k] := by rw [idxA_succ x hk, if_pos hn]
    have e2 : pickL x (idxA x k ++ [k]) = pickL x (idxA x k) ++ [x[k]] := pickL_snoc hk
    have ap := row_app (S := S) (i := i) (L := L) (a := a) (k := 1) (es := es) (ys := pickL x (idxA x k)) (r := x[k]) (by rw [hpl]; exact he.e1) (by omega)
    have h' := he.set1 (m := (idxA x k).length + 1)
    rw [hpl] at ap
    have ap2 := nat_app (S := S) (i := i) (L := L) (a := a) (k := 2) (j := k) h'.e2 (by omega)
    have h'' := h'.set2 (m := (idxA x k).length + 1)
    rw [e1, e2]
    obtain ⟨es', n1', nk⟩ := Stt.nextKeep (S := S) (i := i) (e := srcE L a) (es := (es.set 1 (.tail ((idxA x k).length + 1) 8)).set 2 (.tail ((idxA x k).length + 1) 1)) (b := n0) (k := es.length) (vs := [.sl (reps (pickL x (idxA x k) ++ [x[k]])) (.own (S.length + 1)), .sl (nats (idxA x k ++ [k])) (.own (S.length + 2)), .int .i64 ((k + 1 : Nat) : Int)])
    refine ⟨es', ?_, by rw [List.length_append, List.length_singleton]; exact h''.keep h3 nk⟩
    have heq : (AV.bool (x[k].name == [65, 76, 80, 72, 65])) = .bool true := by rw [hn]; rfl
    unfold F4_L2 F4_J1
    simp only [hlen]
    generalize repR x[k] = R at *
    refine bind_of (a := .bool true) (by simp [hlt]) (cond_t rfl (bind_of hix (bind_of rfl (bind_of (show loadV none (.ip R (0 + 1)) _ = _ from hl1) (bind_of (a := .bool (x[k].name == [65, 76, 80, 72, 65])) rfl (cond_t heq ?_))))))
    refine bind_of hix (bind_of (show loadV (some 8) (.ip R 0) _ = _ from hl8) (bind_of bs (bind_of ap (bind_of (a := .sl [[i64 (k : Int)]] .full) rfl (bind_of ap2 (bind_of rfl (bind_of rfl ?_)))))))
    exact bind_of (a := .int .i64 ((k + 1 : Nat) : Int)) (by simp [w1]) (bind_of n1' rfl)
  · have e1 : idxA x (k + 1) = idxA x k := by rw [idxA_succ x hk, if_neg hn]
    rw [e1]
    obtain ⟨es', n1', nk⟩ := Stt.nextKeep (S := S) (i := i) (e := srcE L a) (es := es) (b := n0) (k := es.length) (vs := [.sl (reps (pickL x (idxA x k))) (.own (S.length + 1)), .sl (nats (idxA x k)) (.own (S.length + 2)), .int .i64 ((k + 1 : Nat) : Int)])
    refine ⟨es', ?_, he.keep h3 nk⟩
    have heq : (AV.bool (x[k].name == [65, 76, 80, 72, 65])) = .bool false := by
      congr 1
      rw [Bool.eq_false_iff]
      intro h
      exact hn (by rwa [beq_iff_eq] at h)
    unfold F4_L2 F4_J1
    simp only [hlen]
    generalize repR x[k] = R at *
    refine bind_of (a := .bool true) (by simp [hlt]) (cond_t rfl (bind_of hix (bind_of rfl (bind_of (show loadV none (.ip R (0 + 1)) _ = _ from hl1) (bind_of (a := .bool (x[k].name == [65, 76, 80, 72, 65])) rfl (cond_f heq ?_))))))
    exact bind_of (a := .int .i64 ((k + 1 : Nat) : Int)) (by simp [w1]) (bind_of n1' rfl)

set_option maxHeartbeats 2000000 in
theorem or_L3 {n0 j : Nat} {o : List Nat} {A B : List (Int × Int)} {t4 t9 t17 : AV} {u ua ub : Tok} {S : Store} (hj : j < B.length) (hB : B.length ≤ 1000000) (hA : A.length ≤ 1000000) (ho : o.length ≤ 1000) (h0 : 0 ≤ (B[j]).1) (h1 : (B[j]).1.toNat < o.length) (hm : backF o B[j] ∈ A) :
    F4_L3 call n0 t4 (.sl (nats o) u) t9 (.sl (flagRows A) ua) t17 (.sl (flagRows B) ub) (i64 B.length) (i64 (j : Int)) S = some (.inl ([i64 ((j + 1 : Nat) : Int)], S)) := by
  have hlt : (j : Int) < (B.length : Int) := by omega
  have hix := at_flags (u := ub) hj
  have w1 : IntKind.i64.wrap ((j : Int) + 1) = ((j + 1 : Nat) : Int) := by rw [wrap_in (by unfold In64; omega)]; omega
  have hh := s_hasF (f := backF o B[j]) (u := ua) hA S
  rw [decide_eq_true hm] at hh
  have hix1 : indexAV 1 none (.sl (nats o) u) (.int .i64 (B[j]).1) = some (.ip [i64 ((o[(B[j]).1.toNat] : Nat) : Int)] 0) := by
    have := at_nats h1
    rw [show (((B[j]).1.toNat : Nat) : Int) = (B[j]).1 by omega] at this
    simp [indexAV, this]
  have hlo : ¬ (B[j]).1 < 0 := by omega
  have hhi : ¬ (o.length : Int) ≤ (B[j]).1 := by omega
  have hbf : flagR (backF o B[j]) = [i64 ((o[(B[j]).1.toNat] : Nat) : Int), i64 (B[j]).2, i64 4] := by
    simp only [flagR, backF, List.getD_eq_getElem?_getD, List.getElem?_eq_getElem h1, Option.getD_some]
  rw [hbf] at hh
  have hfl : flagR B[j] = [i64 (B[j]).1, i64 (B[j]).2, i64 4] := rfl
  rw [hfl] at hix
  have hnl : (nats o).length = o.length := nats_length
  generalize (B[j]).1 = f1 at *
  generalize (B[j]).2 = f2 at *
  generalize ((o[f1.toNat] : Nat) : Int) = w at *
  generalize flagRows A = A' at *
  generalize flagRows B = B' at *
  generalize hN : nats o = N at *
  unfold F4_L3
  repeat (first
    | rfl
    | refine cond_t (by rfl) ?_
    | refine cond_f (by rfl) ?_
    | refine ite_of (by first | rfl | assumption) ?_
    | refine bind_of (by simp [-loadV, -storeV, -Int.natCast_add, loadV_ip, hlt, hix, hlo, hhi, hnl, hix1, hh, w1, nextS_same] <;> rfl) ?_)

theorem or_L3s {n0 : Nat} {o : List Nat} {A B : List (Int × Int)} {t4 t9 t17 : AV} {u ua ub : Tok} {S : Store} (hB : B.length ≤ 1000000) (hA : A.length ≤ 1000000) (ho : o.length ≤ 1000) (h : ∀ f ∈ B, 0 ≤ f.1 ∧ f.1.toNat < o.length ∧ backF o f ∈ A) :
    iter (fun s => F4_L3 call n0 t4 (.sl (nats o) u) t9 (.sl (flagRows A) ua) t17 (.sl (flagRows B) ub) (i64 B.length) (s.1.getD 0 .u) s.2) ([i64 0], S) = some (.exit 4, [.u], S) := by
  have key := iter_run (step := fun s => F4_L3 call n0 t4 (.sl (nats o) u) t9 (.sl (flagRows A) ua) t17 (.sl (flagRows B) ub) (i64 B.length) (s.1.getD 0 .u) s.2) (fun k => ([i64 (k : Nat)], S)) (r := (Ex.exit 4, [.u], S)) B.length 0
    (fun k _ hk => by
      obtain ⟨h1, h2, h3⟩ := h _ (List.getElem_mem (show k < B.length by omega))
      exact or_L3 (by omega) hB hA ho h1 h2 h3) (by unfold F4_L3; simp)
  exact key

set_option maxHeartbeats 2000000 in
theorem or_L5 {n0 j : Nat} {o : List Nat} {A B : List (Int × Int)} {t17 t21 : AV} {u ua ub : Tok} {S : Store} (hj : j < B.length) (hB : B.length ≤ 1000000) (hA : A.length ≤ 1000000) (ho : o.length ≤ 1000) (h0 : 0 ≤ (B[j]).1) (h1 : (B[j]).1.toNat < o.length) (hm : backF o B[j] ∈ A) :
    F4_L5 call n0 (.sl (nats o) u) (.sl (flagRows A) ua) t17 t21 (.sl (flagRows B) ub) (i64 B.length) (i64 (j : Int)) S = some (.inl ([i64 ((j + 1 : Nat) : Int)], S)) := by
  have hlt : (j : Int) < (B.length : Int) := by omega
  have hix := at_flags (u := ub) hj
  have w1 : IntKind.i64.wrap ((j : Int) + 1) = ((j + 1 : Nat) : Int) := by rw [wrap_in (by unfold In64; omega)]; omega
  have hh := s_hasF (f := backF o B[j]) (u := ua) hA S
  rw [decide_eq_true hm] at hh
  have hix1 : indexAV 1 none (.sl (nats o) u) (.int .i64 (B[j]).1) = some (.ip [i64 ((o[(B[j]).1.toNat] : Nat) : Int)] 0) := by
    have := at_nats h1
    rw [show (((B[j]).1.toNat : Nat) : Int) = (B[j]).1 by omega] at this
    simp [indexAV, this]
  have hlo : ¬ (B[j]).1 < 0 := by omega
  have hhi : ¬ (o.length : Int) ≤ (B[j]).1 := by omega
  have hbf : flagR (backF o B[j]) = [i64 ((o[(B[j]).1.toNat] : Nat) : Int), i64 (B[j]).2, i64 4] := by
    simp only [flagR, backF, List.getD_eq_getElem?_getD, List.getElem?_eq_getElem h1, Option.getD_some]
  rw [hbf] at hh
  have hfl : flagR B[j] = [i64 (B[j]).1, i64 (B[j]).2, i64 4] := rfl
  rw [hfl] at hix
  have hnl : (nats o).length = o.length := nats_length
  generalize (B[j]).1 = f1 at *
  generalize (B[j]).2 = f2 at *
  generalize ((o[f1.toNat] : Nat) : Int) = w at *
  generalize flagRows A = A' at *
  generalize flagRows B = B' at *
  generalize hN : nats o = N at *
  unfold F4_L5
  repeat (first
    | rfl
    | refine cond_t (by rfl) ?_
    | refine cond_f (by rfl) ?_
    | refine ite_of (by first | rfl | assumption) ?_
    | refine bind_of (by simp [-loadV, -storeV, -Int.natCast_add, loadV_ip, hlt, hix, hlo, hhi, hnl, hix1, hh, w1, nextS_same] <;> rfl) ?_)

theorem or_L5s {n0 : Nat} {o : List Nat} {A B : List (Int × Int)} {t17 t21 : AV} {u ua ub : Tok} {S : Store} (hB : B.length ≤ 1000000) (hA : A.length ≤ 1000000) (ho : o.length ≤ 1000) (h : ∀ f ∈ B, 0 ≤ f.1 ∧ f.1.toNat < o.length ∧ backF o f ∈ A) :
    iter (fun s => F4_L5 call n0 (.sl (nats o) u) (.sl (flagRows A) ua) t17 t21 (.sl (flagRows B) ub) (i64 B.length) (s.1.getD 0 .u) s.2) ([i64 0], S) = some (.exit 8, [.u], S) := by
  have key := iter_run (step := fun s => F4_L5 call n0 (.sl (nats o) u) (.sl (flagRows A) ua) t17 t21 (.sl (flagRows B) ub) (i64 B.length) (s.1.getD 0 .u) s.2) (fun k => ([i64 (k : Nat)], S)) (r := (Ex.exit 8, [.u], S)) B.length 0
    (fun k _ hk => by
      obtain ⟨h1, h2, h3⟩ := h _ (List.getElem_mem (show k < B.length by omega))
      exact or_L5 (by omega) hB hA ho h1 h2 h3) (by unfold F4_L5; simp)
  exact key

def isA (x : List Rep) (f : Int × Int) : Bool := (x[f.1.toNat]?).any fun r => r.name == nA

theorem or_L4 {n0 j c : Nat} {x : List Rep} {A : List (Int × Int)} {t9 t13 t17 : AV} {u : Tok} {S : Store} (hj : j < A.length) (hA : A.length ≤ 1000000) (hc : c ≤ j) (h0 : 0 ≤ (A[j]).1) (h1 : (A[j]).1.toNat < x.length) :
    F4_L4 call n0 (.sl (reps x) .none) t9 t13 t17 (.sl (flagRows A) u) (i64 A.length) (i64 (c : Int)) (i64 (j : Int)) S = some (.inl ([i64 ((if isA x A[j] = true then c + 1 else c : Nat) : Int), i64 ((j + 1 : Nat) : Int)], S)) := by
  have hlt : (j : Int) < (A.length : Int) := by omega
  have hix := at_flags (u := u) hj
  have w1 : IntKind.i64.wrap ((j : Int) + 1) = ((j + 1 : Nat) : Int) := by rw [wrap_in (by unfold In64; omega)]; omega
  have w2 : IntKind.i64.wrap ((c : Int) + 1) = ((c + 1 : Nat) : Int) := by rw [wrap_in (by unfold In64; omega)]; omega
  have hix1 : indexAV 8 none (.sl (reps x) .none) (.int .i64 (A[j]).1) = some (.ip (repR x[(A[j]).1.toNat]) 0) := by
    have := at_reps h1
    rw [show (((A[j]).1.toNat : Nat) : Int) = (A[j]).1 by omega] at this
    simp [indexAV, this]
  have hl1 : takeC none (repR x[(A[j]).1.toNat]) (0 + 1) = some (.str x[(A[j]).1.toNat].name) := rfl
  have hfl : flagR A[j] = [i64 (A[j]).1, i64 (A[j]).2, i64 4] := rfl
  rw [hfl] at hix
  have hisA : isA x A[j] = (x[(A[j]).1.toNat].name == [65, 76, 80, 72, 65]) := by
    unfold isA
    rw [List.getElem?_eq_getElem h1]
    rfl
  rw [hisA]
  unfold F4_L4 F4_J2
  refine bind_of (a := .bool true) (by simp [hlt]) (cond_t rfl (bind_of hix (bind_of (a := .agg [i64 (A[j]).1, i64 (A[j]).2, i64 4]) rfl (bind_of (a := [i64 (A[j]).1, i64 (A[j]).2, i64 4]) rfl (ite_of rfl ?_)))))
  refine bind_of rfl (bind_of (a := .int .i64 (A[j]).1) rfl (bind_of hix1 (bind_of rfl (bind_of (show loadV none (.ip _ (0 + 1)) _ = _ from hl1) (bind_of (a := .bool (x[(A[j]).1.toNat].name == [65, 76, 80, 72, 65])) rfl ?_)))))
  cases hb : (x[(A[j]).1.toNat].name == [65, 76, 80, 72, 65]) with
  | true =>
    refine cond_t rfl (bind_of (a := i64 ((c + 1 : Nat) : Int)) (by simp [w2]) (bind_of (a := i64 ((j + 1 : Nat) : Int)) (by simp [w1]) (bind_of nextS_same rfl)))
  | false =>
    refine cond_f rfl (bind_of (a := i64 ((j + 1 : Nat) : Int)) (by simp [w1]) (bind_of nextS_same rfl))

theorem or_L4s {n0 : Nat} {x : List Rep} {A : List (Int × Int)} {t9 t13 t17 : AV} {u : Tok} {S : Store} (hA : A.length ≤ 1000000) (h : ∀ f ∈ A, 0 ≤ f.1 ∧ f.1.toNat < x.length) :
    iter (fun s => F4_L4 call n0 (.sl (reps x) .none) t9 t13 t17 (.sl (flagRows A) u) (i64 A.length) (s.1.getD 0 .u) (s.1.getD 1 .u) s.2) ([i64 0, i64 0], S) = some (.exit 6, [i64 ((A.filter (isA x)).length : Nat)], S) := by
  have key := iter_run (step := fun s => F4_L4 call n0 (.sl (reps x) .none) t9 t13 t17 (.sl (flagRows A) u) (i64 A.length) (s.1.getD 0 .u) (s.1.getD 1 .u) s.2) (fun k => ([i64 (((A.take k).filter (isA x)).length : Nat), i64 (k : Nat)], S)) (r := (Ex.exit 6, [i64 ((A.filter (isA x)).length : Nat)], S)) A.length 0
    (fun k _ hk => by
      have hk : k < A.length := by omega
      obtain ⟨h1, h2⟩ := h _ (List.getElem_mem hk)
      have hc : ((A.take k).filter (isA x)).length ≤ k := Nat.le_trans (List.length_filter_le _ _) (by simp; omega)
      have := or_L4 (n0 := n0) (t9 := t9) (t13 := t13) (t17 := t17) (u := u) (S := S) hk hA hc h1 h2
      simp only [List.getD_cons_zero, List.getD_cons_succ]
      rw [this, List.take_succ_eq_append_getElem hk, List.filter_append, List.filter_cons]
      by_cases hi : isA x A[k] = true <;> simp [hi])
    (by
      unfold F4_L4
      simp)
  exact key
end
end Go.Proofs.YtlilahgndpdkfaaDoor

/-
  TimelineOrder: the law answers true, whatever its arguments.
-/
namespace Go.Proofs.YtlilahgndpdkfaaDoor
open Go Go.Abs
set_option maxRecDepth 100000

section
variable {S : Store} {i : Nat} {L : List Int} {a : Nat}

theorem or_L1s {n0 n2 n3 : Nat} {es : Store} {x : List Rep} {o : List Nat} {t5 t6 t8 t9 : AV} {u : Tok} (ho : o.length ≤ 1000) (hj : ∀ j ∈ o, j < x.length) (he : OrE 0 n2 n3 es) :
    ∃ es', iter (fun s => F4_L1 call n0 (.sl (reps x) .none) t5 t6 t8 t9 (.sl (nats o) u) (i64 o.length) (s.1.getD 0 .u) (s.1.getD 1 .u) s.2) ([.sl [] (.own S.length), i64 0], Sr S i L a es) =
      some (.exit 0, [.sl (reps (pickL x o)) (.own S.length)], Sr S i L a es') ∧ OrE o.length n2 n3 es' := by
  obtain ⟨r, h1, es', rfl, h2⟩ := iter_to (step := fun s => F4_L1 call n0 (.sl (reps x) .none) t5 t6 t8 t9 (.sl (nats o) u) (i64 o.length) (s.1.getD 0 .u) (s.1.getD 1 .u) s.2)
    (fun k s => ∃ es, s = ([.sl (reps (pickL x (o.take k))) (.own S.length), i64 (k : Int)], Sr S i L a es) ∧ OrE k n2 n3 es)
    (fun r => ∃ es', r = (.exit 0, [.sl (reps (pickL x o)) (.own S.length)], Sr S i L a es') ∧ OrE o.length n2 n3 es') o.length
    (fun k s hk ⟨es, hs, he⟩ => by
      subst hs
      have hl : (pickL x (o.take k)).length = k := by
        rw [pickL_length fun j h => hj j (List.mem_of_mem_take h), List.length_take]; omega
      have hkj := hj _ (List.getElem_mem hk)
      obtain ⟨es', j1, j2⟩ := or_L1 (S := S) (i := i) (L := L) (a := a) (t5 := t5) (t6 := t6) (t8 := t8) (t9 := t9) (u := u) (n0 := n0) (ys := pickL x (o.take k)) ho hk hkj (by rw [hl]; exact he) (by omega)
      rw [hl] at j2
      refine ⟨_, j1, es', ?_, j2⟩
      rw [List.take_succ_eq_append_getElem hk, pickL_snoc hkj])
    (fun s ⟨es, hs, he⟩ => by
      subst hs
      rw [List.take_length]
      refine ⟨_, ?_, es, rfl, he⟩
      unfold F4_L1
      simp) 0 _ (Nat.zero_le _) ⟨es, rfl, he⟩
  exact ⟨es', h1, h2⟩

theorem or_L2s {n0 n1 : Nat} {es : Store} {x : List Rep} {t5 t6 t7 : AV} (hx : x.length ≤ 1000) (he : OrE n1 0 0 es) :
    ∃ es', iter (fun s => F4_L2 call n0 (.sl (reps x) .none) t5 t6 t7 (i64 x.length) (s.1.getD 0 .u) (s.1.getD 1 .u) (s.1.getD 2 .u) s.2) ([.sl [] (.own (S.length + 1)), .sl [] (.own (S.length + 2)), i64 0], Sr S i L a es) =
      some (.exit 2, [.sl (reps (pickL x (idxA x x.length))) (.own (S.length + 1)), .sl (nats (idxA x x.length)) (.own (S.length + 2))], Sr S i L a es') := by
  obtain ⟨r, h1, es', rfl⟩ := iter_to (step := fun s => F4_L2 call n0 (.sl (reps x) .none) t5 t6 t7 (i64 x.length) (s.1.getD 0 .u) (s.1.getD 1 .u) (s.1.getD 2 .u) s.2)
    (fun k s => ∃ es, s = ([.sl (reps (pickL x (idxA x k))) (.own (S.length + 1)), .sl (nats (idxA x k)) (.own (S.length + 2)), i64 (k : Int)], Sr S i L a es) ∧ OrE n1 (idxA x k).length (idxA x k).length es)
    (fun r => ∃ es', r = (.exit 2, [.sl (reps (pickL x (idxA x x.length))) (.own (S.length + 1)), .sl (nats (idxA x x.length)) (.own (S.length + 2))], Sr S i L a es')) x.length
    (fun k s hk ⟨es, hs, he⟩ => by
      subst hs
      obtain ⟨es', j1, j2⟩ := or_L2 (S := S) (i := i) (L := L) (a := a) (t5 := t5) (t6 := t6) (t7 := t7) (n0 := n0) hx hk he
      exact ⟨_, j1, es', rfl, j2⟩)
    (fun s ⟨es, hs, he⟩ => by
      subst hs
      refine ⟨_, ?_, es, rfl⟩
      unfold F4_L2
      simp) 0 _ (Nat.zero_le _) ⟨es, rfl, he⟩
  exact ⟨es', h1⟩

theorem picks_all {x : List Rep} {o : List Nat} (h : o.Perm (List.range x.length)) : Picks x o fun _ => True :=
  ⟨fun j hj => List.mem_range.1 (h.mem_iff.1 hj), h.nodup_iff.2 List.nodup_range, fun _ _ _ _ => trivial, fun j r hr _ => h.mem_iff.2 (List.mem_range.2 (List.getElem?_eq_some_iff.1 hr).1)⟩

theorem picks_A (x : List Rep) : Picks x (idxA x x.length) fun n => n = nA := by
  refine ⟨fun j hj => (idxA_lt hj).2, List.Pairwise.filter _ List.nodup_range, fun j hj r hr => ?_, fun j r hr hn => ?_⟩
  · unfold idxA at hj
    rw [List.mem_filter, hr] at hj
    simpa using hj.2
  · unfold idxA
    rw [List.mem_filter, hr]
    exact ⟨List.mem_range.2 (List.getElem?_eq_some_iff.1 hr).1, by simp [hn]⟩

theorem few_pick {x : List Rep} {o : List Nat} (h : Few x) (ho : ∀ j ∈ o, j < x.length) (hl : o.length ≤ 1000) : Few (pickL x o) := ⟨by rw [pickL_length ho]; exact hl, fun r hr => by
  obtain ⟨i, hi⟩ := List.mem_iff_getElem?.1 hr
  rw [pickL_get ho, Option.bind_eq_some_iff] at hi
  obtain ⟨j, _, h2⟩ := hi
  exact h.rd r (List.mem_of_getElem? h2)⟩
end

set_option maxHeartbeats 8000000 in
theorem or_law {L : List Int} (hL : ∀ n ∈ L, In64 n) : Ev (call 4 [.sl (ints L) .none] []) fun r => r.1 = .bool true := by
  rw [k4]
  unfold F4
  obtain ⟨S1, L', hN, hs, hlen1⟩ := law_New L hL
  refine Ev.to rfl (Ev.to hN (Ev.to rfl ?_))
  refine Ev.bind ((g_Minute 0).at (by assumption)) ?_
  rintro _ ⟨v1, a1, b1, q1, rfl⟩
  try dsimp only
  obtain ⟨m, rfl, m1, m2⟩ := q1
  refine Ev.to rfl ?_
  refine Ev.bind ((g_Series (n := 9) (near := m) 0 (by omega) (by omega)).at (by assumption)) ?_
  rintro _ ⟨v2, a2, k2, q2, rfl⟩
  try dsimp only
  obtain ⟨x, m', rfl, hx1, hx2⟩ := q2
  have hm0 : 0 ≤ max2 0 (min2 52589999 m) ∧ max2 0 (min2 52589999 m) ≤ 52589999 := by unfold max2 min2; split <;> split at * <;> omega
  have hxhi := hx2.hi
  have hg : Abs.Good x := ser_good hx2 (by omega) (by omega)
  have hfx : Few x := ser_few hx2 hx1 (by omega)
  refine Ev.to rfl ?_
  refine Ev.bind ((g_Control 0).at (by assumption)) ?_
  rintro _ ⟨v3, a3, k3, q3, rfl⟩
  try dsimp only
  obtain ⟨k, rfl, hk⟩ := q3
  refine Ev.to (show imms (cellsOf (.agg (ctlC k))) = some (ctlC k) from imms_ctl k) (Ev.ite (ctl_length hk.fit) ?_)
  refine Ev.to (a := i64 x.length) (by simp) (Ev.to rfl ?_)
  refine Ev.bind ((g_Order (n := x.length) 0 hfx.len).at (by assumption)) ?_
  rintro _ ⟨v4, a4, k4, q4, rfl⟩
  try dsimp only
  obtain ⟨o, to, rfl, ho⟩ := q4
  have hol : o.length = x.length := by rw [ho.length_eq, List.length_range]
  have hxl := hfx.len
  have P1 := picks_all ho
  have P2 := picks_A x
  have ow1 : ownV 8 (.sl [] .full) (Sr S1 0 L' a4 []) = some (.sl [] (.own S1.length), Sr S1 0 L' a4 [.tail 0 8]) := by
    simp only [ownV, szOK, cond_true, Stt.length, Stt.app, List.length_nil, Nat.add_zero, List.nil_append]
  have ow2 : ownV 8 (.sl [] .full) (Sr S1 0 L' a4 [.tail 0 8]) = some (.sl [] (.own (S1.length + 1)), Sr S1 0 L' a4 [.tail 0 8, .tail 0 8]) := by
    simp only [ownV, szOK, cond_true, Stt.length, Stt.app, List.length_nil, List.length_cons, Nat.zero_add, List.cons_append, List.nil_append]
  have ow3 : ownV 1 (.sl [] .full) (Sr S1 0 L' a4 [.tail 0 8, .tail 0 8]) = some (.sl [] (.own (S1.length + 2)), Sr S1 0 L' a4 [.tail 0 8, .tail 0 8, .tail 0 1]) := by
    simp only [ownV, szOK, cond_true, Stt.length, Stt.app, List.length_nil, List.length_cons, Nat.zero_add, List.cons_append, List.nil_append]
  refine Ev.to ow1 (Ev.to ow2 (Ev.to ow3 (Ev.to (a := i64 o.length) (by simp) ?_)))
  obtain ⟨es1, l1, e1⟩ := or_L1s (S := S1) (i := 0) (L := L') (a := a4) (n0 := ([] : Store).length) (n2 := 0) (n3 := 0) (es := [.tail 0 8, .tail 0 8, .tail 0 1]) (x := x) (o := o) (t5 := .ip (ctlC k) 0) (t6 := .sl (nats o) to) (t8 := .sl [] (.own (S1.length + 1))) (t9 := .sl [] (.own (S1.length + 2))) (u := to) (by omega) P1.lt ⟨rfl, rfl, rfl⟩
  refine Ev.to l1 ?_
  simp only [exK_exit, Nat.beq_refl, cond_true]
  obtain ⟨es2, l2⟩ := or_L2s (S := S1) (i := 0) (L := L') (a := a4) (n0 := ([] : Store).length) (es := es1) (x := x) (t5 := .ip (ctlC k) 0) (t6 := .sl (nats o) to) (t7 := .sl (reps (pickL x o)) (.own S1.length)) hxl e1
  refine Ev.to (a := i64 x.length) (by simp) (Ev.to l2 ?_)
  simp only [exK_exit, Nat.beq_refl, cond_true]
  -- the three checks
  have hgy := P1.good hg
  have hgo := P2.good hg
  have hil := idxA_le x x.length
  have hfy := few_pick hfx P1.lt (by omega)
  have hfo := few_pick hfx P2.lt (by omega)
  have he1 := examP_ok hg hk.steps hk.spikes
  have he2 := examP_ok hgy hk.steps hk.spikes
  have he3 := examP_ok hgo hk.steps hk.spikes
  obtain ⟨u1, C1⟩ := s_Check (t := .none) hk.fit hfx (Sr S1 0 L' a4 es2)
  obtain ⟨u2, C2⟩ := s_Check (t := .own S1.length) hk.fit hfy (Sr S1 0 L' a4 es2)
  obtain ⟨u3, C3⟩ := s_Check (t := .own (S1.length + 1)) hk.fit hfo (Sr S1 0 L' a4 es2)
  have f1 : flagsP x k = refFlags x k x.length := by unfold flagsP; rw [if_pos he1]
  have f2 : flagsP (pickL x o) k = refFlags (pickL x o) k (pickL x o).length := by unfold flagsP; rw [if_pos he2]
  have f3 : flagsP (pickL x (idxA x x.length)) k = refFlags (pickL x (idxA x x.length)) k (pickL x (idxA x x.length)).length := by unfold flagsP; rw [if_pos he3]
  have n1 := flagsP_few (k := k) hfx
  have n2 := flagsP_few (k := k) hfy
  have n3 := flagsP_few (k := k) hfo
  rw [f1] at n1
  rw [f2] at n2
  rw [f3] at n3
  rw [f1, he1] at C1
  rw [f2, he2] at C2
  rw [f3, he3] at C3
  -- what they have to do with each other
  have r1 : ∀ f ∈ refFlags x k x.length, 0 ≤ f.1 ∧ f.1.toNat < x.length := fun f hf => flag_lt hf
  have Q1 := P1.flags hg k (fun _ => true) (fun f hf => ⟨fun _ => ⟨_, List.getElem?_eq_getElem (r1 f hf).2, trivial⟩, fun _ => rfl⟩)
  have Q2 := P2.flags hg k (isA x) (fun f hf => by
    unfold isA
    rw [List.getElem?_eq_getElem (r1 f hf).2]
    simp)
  have r2 : ∀ f ∈ refFlags (pickL x o) k (pickL x o).length, 0 ≤ f.1 ∧ f.1.toNat < o.length ∧ backF o f ∈ refFlags x k x.length := fun f hf => by
    have h1 := flag_lt hf
    rw [pickL_length P1.lt] at h1
    exact ⟨h1.1, h1.2, (List.mem_filter.1 (Q1.mem_iff.1 (List.mem_map_of_mem hf))).1⟩
  have r3 : ∀ f ∈ refFlags (pickL x (idxA x x.length)) k (pickL x (idxA x x.length)).length, 0 ≤ f.1 ∧ f.1.toNat < (idxA x x.length).length ∧ backF (idxA x x.length) f ∈ refFlags x k x.length := fun f hf => by
    have h1 := flag_lt hf
    rw [pickL_length P2.lt] at h1
    exact ⟨h1.1, h1.2, (List.mem_filter.1 (Q2.mem_iff.1 (List.mem_map_of_mem hf))).1⟩
  have r4 : (refFlags (pickL x o) k (pickL x o).length).length = (refFlags x k x.length).length := by
    have := Q1.length_eq
    rw [List.length_map] at this
    rw [this, List.filter_eq_self.2]
    exact fun _ _ => rfl
  have r5 : (refFlags (pickL x (idxA x x.length)) k (pickL x (idxA x x.length)).length).length = ((refFlags x k x.length).filter (isA x)).length := by
    have := Q2.length_eq
    rwa [List.length_map] at this
  clear Q1 Q2 f1 f2 f3 he1 he2 he3
  have hl41 : takeC (some 41) (ctlC k) 0 = some (.agg (ctlC k)) := by
    rw [takeC, if_pos (by rw [ctl_length hk.fit]; omega), List.drop_zero, List.take_of_length_le (by rw [ctl_length hk.fit]; omega)]
  have him := imms_ctl k
  have aw := s_awake (Sr S1 0 L' a4 es2)
  generalize refFlags (pickL x o) k (pickL x o).length = B at *
  generalize refFlags (pickL x (idxA x x.length)) k (pickL x (idxA x x.length)).length = C at *
  generalize refFlags x k x.length = A at *
  have l3 := or_L3s (n0 := ([] : Store).length) (o := o) (A := A) (B := B) (t4 := .sl (reps x) .none) (t9 := .sl (nats (idxA x x.length)) (.own (S1.length + 2))) (t17 := .sl (flagRows C) u3) (u := to) (ua := u1) (ub := u2) (S := Sr S1 0 L' a4 es2) n2 n1 (by omega) r2
  have l4 := or_L4s (n0 := ([] : Store).length) (x := x) (A := A) (t9 := .sl (nats (idxA x x.length)) (.own (S1.length + 2))) (t13 := .sl (flagRows A) u1) (t17 := .sl (flagRows C) u3) (u := u1) (S := Sr S1 0 L' a4 es2) n1 r1
  have l5 := or_L5s (n0 := ([] : Store).length) (o := idxA x x.length) (A := A) (B := C) (t17 := .sl (flagRows C) u3) (t21 := i64 ((A.filter (isA x)).length : Nat)) (u := .own (S1.length + 2)) (ua := u1) (ub := u3) (S := Sr S1 0 L' a4 es2) n3 n1 (by omega) r3
  have hlA : (flagRows A).length = A.length := by simp [flagRows]
  have hlB : (flagRows B).length = A.length := by simp [flagRows, r4]
  have hlC : lenV (.sl (flagRows C) u3) = some (i64 C.length) := by simp [flagRows]
  have hlB2 : lenV (.sl (flagRows B) u2) = some (i64 B.length) := by simp [flagRows]
  have hlA2 : lenV (.sl (flagRows A) u1) = some (i64 A.length) := by simp [flagRows]
  generalize ctlC k = K at *
  refine Ev.to (show loadV (some 41) (.ip K 0) _ = _ from hl41) ?_
  refine Ev.to (a := [.sl (reps x) .none, .agg K]) (by simp [him]) (Ev.to C1 (Ev.to rfl (Ev.to rfl ?_)))
  refine Ev.to (show loadV (some 41) (.ip K 0) _ = _ from hl41) ?_
  refine Ev.to (a := [.sl (reps (pickL x o)) (.own S1.length), .agg K]) (by simp [him]) (Ev.to C2 (Ev.to rfl (Ev.to rfl ?_)))
  refine Ev.to (show loadV (some 41) (.ip K 0) _ = _ from hl41) ?_
  refine Ev.to (a := [.sl (reps (pickL x (idxA x x.length))) (.own (S1.length + 1)), .agg K]) (by simp [him]) (Ev.to C3 (Ev.to rfl (Ev.to rfl ?_)))
  clear C1 C2 C3
  repeat (first
    | refine Ev.fin (by simp [hlA, hlB] <;> rfl) (by simp [hlA, hlB]) ?_
    | refine Ev.t (by rfl) ?_
    | refine Ev.f (by rfl) ?_
    | refine Ev.ite (by first | rfl | assumption) ?_
    | refine Ev.to (by simp (disch := omega) [-loadV, -storeV, -Int.natCast_add, loadV_ip, hlA, hlB] <;> rfl) ?_
    | refine Ev.to (by simp [-loadV, -storeV, -Int.natCast_add, loadV_ip, hlA, hlB] <;> rfl) ?_)
  rw [r4] at l3
  refine Ev.to l3 ?_
  simp only [exK_exit, Nat.beq_refl, cond_true]
  refine Ev.to hlA2 (Ev.to l4 ?_)
  simp only [exK_exit, Nat.beq_refl, cond_true]
  refine Ev.to hlC (Ev.to l5 ?_)
  simp only [exK_exit, Nat.beq_refl, cond_true]
  refine Ev.to hlC ?_
  rw [r5]
  repeat (first
    | refine Ev.fin (by simp [aw] <;> rfl) (by simp [aw]) ?_
    | refine Ev.t (by rfl) ?_
    | refine Ev.f (by rfl) ?_
    | refine Ev.ite (by first | rfl | assumption) ?_
    | refine Ev.to (by simp (disch := omega) [-loadV, -storeV, -Int.natCast_add, loadV_ip, aw] <;> rfl) ?_
    | refine Ev.to (by simp [-loadV, -storeV, -Int.natCast_add, loadV_ip, aw] <;> rfl) ?_)
  exact ⟨(.bool true, (Sr S1 0 L' a4 es2).take ([] : Store).length), by simp, rfl⟩

theorem timelineOrder_true (xs : List AV) (h : FitsAll Tryd.prog 8 Tryd.f4.params.toList xs) : ∃ S', call 4 xs [] = some (.bool true, S') := by
  have hp : Tryd.f4.params.toList = [26] := by kernel_rfl
  rw [hp] at h
  obtain ⟨x1, rfl, h1⟩ := fitsAll1 h
  obtain ⟨L, rfl, _, hL⟩ := arg_ints h1
  obtain ⟨⟨v, S'⟩, e, rfl⟩ := or_law hL
  exact ⟨S', e⟩
end Go.Proofs.YtlilahgndpdkfaaDoor
