/-
  Texts of this claim: TlGen6.
-/
import Derived.Test.YtlilahgndpdkfaaDoorOwn12
set_option linter.all false
/-
  What the makers of given data answer: an order.
-/
namespace Go.Proofs.YtlilahgndpdkfaaDoor
open Go Go.Abs

def nats (o : List Nat) : List (List AV) := ints (o.map fun (j : Nat) => (j : Int))
@[simp] theorem nats_length {o : List Nat} : (nats o).length = o.length := by simp [nats]
theorem nats_row {o : List Nat} : ∀ x ∈ nats o, x.length = 1 ∧ imms x = some x := by
  intro x hx
  obtain ⟨b, _, rfl⟩ := List.mem_map.1 hx
  simp
theorem nats_sz (o : List Nat) : szOK 1 (nats o) = true := by cases o <;> rfl
theorem at_nats {o : List Nat} {k : Nat} (h : k < o.length) : at? (nats o) (k : Int) = some [i64 ((o[k] : Nat) : Int)] := by
  rw [at_nat]; simp [nats, ints, h]

/-- append to a slice without room. -/
theorem app_full {o p : List Nat} {u : Tok} {S : Store} (h : o.length + p.length ≤ 100000) : ∃ t S' , appendV 1 (.sl (nats o) .full) (.sl (nats p) u) S = some (.sl (nats (o ++ p)) t, S') ∧ (S' = S ∨ ∃ e, S' = S ++ [e]) := by
  have hi : immRows 1 (nats p) = some (nats p) := immRows_self nats_row
  have e : nats o ++ nats p = nats (o ++ p) := by simp [nats, ints]
  cases p with
  | nil => exact ⟨.full, S, by simp only [appendV, rowsOf_sl, Option.bind_some, hi, List.append_nil]; rfl, .inl rfl⟩
  | cons x p =>
    refine ⟨.own S.length, S ++ [.tail ((nats o).length + (nats (x :: p)).length) 1], ?_, .inr ⟨_, rfl⟩⟩
    simp only [appendV, rowsOf_sl, Option.bind_some, hi]
    rw [← e]
    have hc : nats (x :: p) = [i64 (x : Int)] :: nats p := rfl
    rw [hc]
    simp only
    rw [← hc, if_pos (by simp [room] at h ⊢; omega), nats_sz, cond_true]

theorem insert_perm (o : List Nat) (k j : Nat) : (o.take k ++ j :: o.drop k).Perm (o ++ [j]) := by
  refine (List.perm_middle).trans ?_
  rw [List.take_append_drop]
  exact (List.perm_append_comm (l₁ := [j]) (l₂ := o))

section
variable {S : Store} {i : Nat} {L : List Int}

set_option maxHeartbeats 2000000 in
theorem g_OrderL {n j a : Nat} {o : List Nat} {t : Tok} {es : Store} (hs : Sc S i L a) (ho : o.length = j) (hj : j < n) (hn : n ≤ 1000) :
    Ev (F20_L1 call S.length (.ptr i 0) (i64 (n : Int)) (.sl (nats o) t) (i64 (j : Int)) (Sr S i L a es)) fun x => ∃ (a k : Nat) (t : Tok) (es' : Store), Sc S i L a ∧ x = .inl ([.sl (nats (o.take k ++ j :: o.drop k)) t, i64 ((j + 1 : Nat) : Int)], Sr S i L a es') := by
  have hlt : (j : Int) < (n : Int) := by omega
  have hl : lenV (.sl (nats o) t) = some (i64 o.length) := by simp
  have w1 : IntKind.i64.wrap ((o.length : Int) + 1) = (o.length : Int) + 1 := wrap_in (by unfold In64; omega)
  have w2 : IntKind.i64.wrap ((j : Int) + 1) = ((j + 1 : Nat) : Int) := by rw [wrap_in (by unfold In64; omega)]; omega
  unfold F20_L1
  simp only [Stt.length]
  refine Ev.to (a := .bool true) (by simp [hlt]) (Ev.t rfl (Ev.to hl (Ev.to (a := i64 ((o.length : Int) + 1)) (by simp [w1]) (Ev.to rfl ?_))))
  refine Ev.bind (e_N (by assumption) (by omega) (by omega)) ?_
  rintro _ ⟨v, a1, h1, v1, v2, rfl⟩
  try dsimp only
  have hk : v.toNat ≤ o.length := by omega
  have bs : bsliceV 1 [cellsOf (.int .i64 (j : Int))] = some (.sl (nats [j]) .full) := rfl
  have s1 : sliceV 1 (.sl (nats o) t) (some (i64 v)) none none = some (.sl (nats (o.drop v.toNat)) (sliceTok none none t)) := by
    have hb : (0 : Int) ≤ v ∧ v ≤ ((nats o).length : Int) := ⟨v1, by rw [nats_length]; omega⟩
    simp only [sliceV, bound, Option.bind_some, i64, hb, and_self, if_true, mxFits, nats_sz, Bool.and_self, cond_true, List.take_length]
    congr 2
    simp [nats, ints]
  have s2 : sliceV 1 (.sl (nats o) t) none (some (i64 v)) (some (i64 v)) = some (.sl (nats (o.take v.toNat)) .full) := by
    have hb : (0 : Int) ≤ v ∧ v ≤ ((nats o).length : Int) := ⟨v1, by rw [nats_length]; omega⟩
    have hm : (v == ((v.toNat : Nat) : Int)) = true := by rw [beq_iff_eq]; omega
    simp only [sliceV, bound, Option.bind_some, i64, hb, and_self, if_true, mxFits, hm, nats_sz, Bool.and_self, cond_true, List.drop_zero, sliceTok]
    congr 2
    simp [nats, ints]
  obtain ⟨t3, S3, p1, p2⟩ := app_full (o := [j]) (p := o.drop v.toNat) (u := sliceTok none none t) (S := Sr S i L a1 es) (by simp; omega)
  obtain ⟨e3, rfl⟩ : ∃ es3, S3 = Sr S i L a1 es3 := by
    rcases p2 with rfl | ⟨e, rfl⟩
    · exact ⟨es, rfl⟩
    · exact ⟨es ++ [e], Stt.app⟩
  obtain ⟨t4, S4, p3, p4⟩ := app_full (o := o.take v.toNat) (p := [j] ++ o.drop v.toNat) (u := t3) (S := Sr S i L a1 e3) (by simp; omega)
  obtain ⟨e4, rfl⟩ : ∃ es3, S4 = Sr S i L a1 es3 := by
    rcases p4 with rfl | ⟨e, rfl⟩
    · exact ⟨e3, rfl⟩
    · exact ⟨e3 ++ [e], Stt.app⟩
  obtain ⟨e5, n1, _⟩ := Stt.nextAny (S := S) (i := i) (e := srcE L a1) (es := e4) (b := S.length) (k := es.length) (vs := [.sl (nats (o.take v.toNat ++ ([j] ++ o.drop v.toNat))) t4, i64 ((j + 1 : Nat) : Int)])
  refine Ev.to bs (Ev.to s1 (Ev.to p1 (Ev.to s2 (Ev.to p3 (Ev.to (a := i64 ((j + 1 : Nat) : Int)) (by simp [w2]) (Ev.to n1 ?_))))))
  exact .mk ⟨a1, v.toNat, t4, e5, h1, by simp⟩
end

theorem g_Order {n : Nat} (i : Nat) (hn : n ≤ 1000) : Maker 20 [.ptr i 0, i64 (n : Int)] i fun v => ∃ (o : List Nat) (t : Tok), v = .sl (nats o) t ∧ o.Perm (List.range n) := by
  intro S L a hs
  unfold Mk
  rw [k20]
  unfold F20
  simp only [Stt.length, List.length_nil, Nat.add_zero]
  refine Ev.bind (Ev.iter (Q := fun r => ∃ (a : Nat) (o : List Nat) (t : Tok) (es : Store), Sc S i L a ∧ o.Perm (List.range n) ∧ r = (.exit 0, [.sl (nats o) t], Sr S i L a es))
    (fun m s => ∃ (j a : Nat) (o : List Nat) (t : Tok) (es : Store), j + m = n ∧ Sc S i L a ∧ o.Perm (List.range j) ∧ s = ([.sl (nats o) t, i64 (j : Int)], Sr S i L a es))
    (fun m s ⟨j, a, o, t, es, hm, hs, hp, e⟩ => by
      subst e
      by_cases hj : j < n
      · refine (g_OrderL (t := t) (es := es) hs (by rw [hp.length_eq, List.length_range]) hj hn).mono fun x hx => ?_
        obtain ⟨a', k, t', es', h1, rfl⟩ := hx
        refine ⟨m - 1, by omega, j + 1, a', _, t', es', by omega, h1, ?_, rfl⟩
        rw [List.range_succ]
        exact (insert_perm o k j).trans (hp.append_right [j])
      · obtain rfl : j = n := by omega
        refine ⟨.inr (.exit 0, [.sl (nats o) t], Sr S i L a es), ?_, a, o, t, es, hs, hp, rfl⟩
        unfold F20_L1
        simp)
    (k := n) ⟨0, a, [], .full, [], by omega, hs, .refl _, rfl⟩) ?_
  rintro _ ⟨a2, o, t, es, h2, hp, rfl⟩
  simp only [exK_exit, Nat.beq_refl, cond_true]
  have fin : ∃ t', fins S.length (Sr S i L a2 es) [.sl (nats o) t] = some [.sl (nats o) t'] ∧ belows S.length [.sl (nats o) t'] = true := by
    cases t with
    | none => exact ⟨.none, rfl, by simp⟩
    | full => exact ⟨.full, rfl, by simp⟩
    | own j =>
      cases hb : Nat.blt j S.length with
      | true => exact ⟨.own j, by simp [fins, fin1, hb], by simp [hb]⟩
      | false => exact ⟨.none, by simp [fins, fin1, hb], by simp⟩
  obtain ⟨t', f1, f2⟩ := fin
  exact Ev.fin f1 f2 ⟨_, a2, h2, ⟨o, t', rfl, hp⟩, rfl⟩
end Go.Proofs.YtlilahgndpdkfaaDoor
