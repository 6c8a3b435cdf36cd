/-
  Texts of this claim: TlCheck, TlCheckM.
-/
import Derived.Test.YtlilahgndpdkfaaDoorOwn9
import Derived.Test.YtlilahgndpdkfaaDoorOwn17
import Derived.Test.YtlilahgndpdkfaaDoorOwn18
import Derived.Test.YtlilahgndpdkfaaDoorOwn20
set_option linter.all false
/-
  What timeline's Check answers.
-/
namespace Go.Proofs.YtlilahgndpdkfaaDoor
open Go Go.Abs

theorem nextS_grow {b n m l sz : Nat} {x : AV} {S : Store} (hm : n ≤ m) : nextS b n [.osl m 0 l sz, x] S = some ([.osl m 0 l sz, x], S) := by
  simp [nextS, belows, below, blt_false hm]

/-- What is known at one reading of a line. -/
structure CkH (j k : Nat) (L : List Pt) (S : Store) (t10 a : AV) (b1 : Bool) : Prop where
  hk : k < L.length
  hi : ∀ (q : Nat), q < L.length → indexAV 3 none (.osl j 0 L.length 3) (.int .i64 (q : Int)) = some (.ptr j (q * 3))
  hld : ∀ (q : Nat) (hq : q < L.length), loadV (some 3) (.ptr j (q * 3)) S = some (.agg [i64 (L[q]).rep, i64 (L[q]).time, i64 (L[q]).val])
  ha : indexAV 1 none t10 (.int .i64 k) = some a
  ha2 : loadV none a S = some (.bool b1)

section
variable {n0 j k : Nat} {L : List Pt} {nm : List UInt8} {c p : Int} {S : Store} {v t10 : AV} {a : AV}

set_option maxHeartbeats 2000000 in
theorem ck_true {v2 : AV} {S2 : Store} (h : CkH j k L S t10 a true) (a1 : appendMV 3 v (.sl [[i64 (L[k]'h.hk).rep, i64 c, i64 4]] .full) S = some (v2, S2)) :
    F17_L1 call n0 (.ip [.str nm, i64 c] 0) (.osl j 0 L.length 3) t10 (i64 p) (.osl j 0 L.length 3) (i64 L.length) v (i64 k) S = F17_J1 call n0 S.length v2 (i64 k) S2 := by
  obtain ⟨hk, hi, hld, ha, ha2⟩ := h
  have hlt : (k : Int) < (L.length : Int) := by omega
  unfold F17_L1
  simp only []
  repeat (first
    | rfl
    | refine bind_of (by simp [-loadV, hlt, hi k hk, hld k hk, loadV_ip, ha, ha2, buildV, fillC, bsliceV, immRows, a1] <;> rfl) ?_
    | refine cond_t (by rfl) ?_
    | refine cond_f (by rfl) ?_
    | refine ite_of (by rfl) ?_)

set_option maxHeartbeats 2000000 in
theorem ck_p (h : CkH j k L S t10 a false) (hp : ¬ 0 < p) :
    F17_L1 call n0 (.ip [.str nm, i64 c] 0) (.osl j 0 L.length 3) t10 (i64 p) (.osl j 0 L.length 3) (i64 L.length) v (i64 k) S = F17_J1 call n0 S.length v (i64 k) S := by
  obtain ⟨hk, hi, hld, ha, ha2⟩ := h
  have hlt : (k : Int) < (L.length : Int) := by omega
  unfold F17_L1
  simp only []
  repeat (first
    | rfl
    | refine bind_of (by simp [-loadV, hlt, hi k hk, hld k hk, loadV_ip, ha, ha2, hp] <;> rfl) ?_
    | refine cond_t (by rfl) ?_
    | refine cond_f (by rfl) ?_
    | refine ite_of (by rfl) ?_)

set_option maxHeartbeats 2000000 in
theorem ck_k (h : CkH j k L S t10 a false) (hp : 0 < p) (hk0 : ¬ 0 < k) :
    F17_L1 call n0 (.ip [.str nm, i64 c] 0) (.osl j 0 L.length 3) t10 (i64 p) (.osl j 0 L.length 3) (i64 L.length) v (i64 k) S = F17_J1 call n0 S.length v (i64 k) S := by
  obtain ⟨hk, hi, hld, ha, ha2⟩ := h
  have hlt : (k : Int) < (L.length : Int) := by omega
  unfold F17_L1
  simp only []
  repeat (first
    | rfl
    | refine bind_of (by simp [-loadV, hlt, hi k hk, hld k hk, loadV_ip, ha, ha2, hp, hk0] <;> rfl) ?_
    | refine cond_t (by rfl) ?_
    | refine cond_f (by rfl) ?_
    | refine ite_of (by rfl) ?_)

set_option maxHeartbeats 2000000 in
theorem ck_l (h : CkH j k L S t10 a false) (hp : 0 < p) (hk0 : 0 < k) (hk1 : ¬ k + 1 < L.length) (hl : L.length ≤ 1000000) :
    F17_L1 call n0 (.ip [.str nm, i64 c] 0) (.osl j 0 L.length 3) t10 (i64 p) (.osl j 0 L.length 3) (i64 L.length) v (i64 k) S = F17_J1 call n0 S.length v (i64 k) S := by
  obtain ⟨hk, hi, hld, ha, ha2⟩ := h
  have hlt : (k : Int) < (L.length : Int) := by omega
  have w1 : IntKind.i64.wrap ((k : Int) + 1) = (k : Int) + 1 := wrap_in (by unfold In64; omega)
  have hk1' : ¬ ((k : Int) + 1 < (L.length : Int)) := by omega
  unfold F17_L1
  simp only []
  repeat (first
    | rfl
    | refine bind_of (by simp [-loadV, hlt, hi k hk, hld k hk, loadV_ip, ha, ha2, hp, hk0, hk1', w1] <;> rfl) ?_
    | refine cond_t (by rfl) ?_
    | refine cond_f (by rfl) ?_
    | refine ite_of (by rfl) ?_)

theorem ck_w (hk0 : 0 < k) (hl : k ≤ 1000000) : IntKind.i64.wrap ((k : Int) - 1) = ((k - 1 : Nat) : Int) ∧ IntKind.i64.wrap ((k : Int) + 1) = ((k + 1 : Nat) : Int) :=
  ⟨by rw [wrap_in (by unfold In64; omega)]; omega, by rw [wrap_in (by unfold In64; omega)]; rfl⟩

set_option maxHeartbeats 4000000 in
theorem ck_f (h : CkH j k L S t10 a false) (hp : 0 < p) (hk0 : 0 < k) (hk1 : k + 1 < L.length) (hl : L.length ≤ 1000000)
    (sp : call 36 [.agg [i64 (L[k - 1]'(by omega)).rep, i64 (L[k - 1]'(by omega)).time, i64 (L[k - 1]'(by omega)).val], .agg [i64 (L[k]'h.hk).rep, i64 (L[k]'h.hk).time, i64 (L[k]'h.hk).val], .agg [i64 (L[k + 1]).rep, i64 (L[k + 1]).time, i64 (L[k + 1]).val], i64 p] S = some (.bool false, S)) :
    F17_L1 call n0 (.ip [.str nm, i64 c] 0) (.osl j 0 L.length 3) t10 (i64 p) (.osl j 0 L.length 3) (i64 L.length) v (i64 k) S = F17_J1 call n0 S.length v (i64 k) S := by
  obtain ⟨hk, hi, hld, ha, ha2⟩ := h
  have hlt : (k : Int) < (L.length : Int) := by omega
  obtain ⟨w2, w1⟩ := ck_w hk0 (by omega)
  have hkm : k - 1 < L.length := by omega
  have hk2 : ((k + 1 : Nat) : Int) < (L.length : Int) := by omega
  unfold F17_L1
  simp only []
  repeat (first
    | rfl
    | refine bind_of (by simp [-loadV, -Int.natCast_add, hlt, hi k hk, hi _ hkm, hi _ hk1, hld k hk, hld _ hkm, hld _ hk1, loadV_ip, ha, ha2, hp, hk0, hk1, hk2, w1, w2, sp] <;> rfl) ?_
    | refine cond_t (by rfl) ?_
    | refine cond_f (by rfl) ?_
    | refine ite_of (by rfl) ?_)

set_option maxHeartbeats 4000000 in
theorem ck_t {v2 : AV} {S2 : Store} (h : CkH j k L S t10 a false) (hp : 0 < p) (hk0 : 0 < k) (hk1 : k + 1 < L.length) (hl : L.length ≤ 1000000)
    (sp : call 36 [.agg [i64 (L[k - 1]'(by omega)).rep, i64 (L[k - 1]'(by omega)).time, i64 (L[k - 1]'(by omega)).val], .agg [i64 (L[k]'h.hk).rep, i64 (L[k]'h.hk).time, i64 (L[k]'h.hk).val], .agg [i64 (L[k + 1]).rep, i64 (L[k + 1]).time, i64 (L[k + 1]).val], i64 p] S = some (.bool true, S))
    (a1 : appendMV 3 v (.sl [[i64 (L[k]'h.hk).rep, i64 c, i64 4]] .full) S = some (v2, S2)) :
    F17_L1 call n0 (.ip [.str nm, i64 c] 0) (.osl j 0 L.length 3) t10 (i64 p) (.osl j 0 L.length 3) (i64 L.length) v (i64 k) S = F17_J1 call n0 S.length v2 (i64 k) S2 := by
  obtain ⟨hk, hi, hld, ha, ha2⟩ := h
  have hlt : (k : Int) < (L.length : Int) := by omega
  obtain ⟨w2, w1⟩ := ck_w hk0 (by omega)
  have hkm : k - 1 < L.length := by omega
  have hk2 : ((k + 1 : Nat) : Int) < (L.length : Int) := by omega
  unfold F17_L1
  simp only []
  repeat (first
    | rfl
    | refine bind_of (by simp [-loadV, -Int.natCast_add, hlt, hi k hk, hi _ hkm, hi _ hk1, hld k hk, hld _ hkm, hld _ hk1, loadV_ip, ha, ha2, hp, hk0, hk1, hk2, w1, w2, sp, buildV, fillC, bsliceV, immRows, a1] <;> rfl) ?_
    | refine cond_t (by rfl) ?_
    | refine cond_f (by rfl) ?_
    | refine ite_of (by rfl) ?_)
end

set_option maxHeartbeats 8000000 in
/-- One reading of a line. -/
theorem check_round {n0 nB j k : Nat} {L : List Pt} {nm : List UInt8} {c s p : Int} {S : Store} {v t10 : AV} {rows : List (List AV)} {a : AV}
    (hL : ∀ q ∈ L, q.Ok) (hl : L.length ≤ 1000000) (hk : k < L.length) (hS : S[j]? = some (.obj (pts L).flatten)) (hg : Grow nB 3 S v rows) (hnB : nB ≤ S.length) (hrows : ∀ x ∈ rows, x.length = 3) (hrl : rows.length ≤ 2000000)
    (ha : indexAV 1 none t10 (.int .i64 k) = some a) (ha2 : loadV none a S = some (.bool (decide (0 < s) && stepP L s k))) :
    ∃ v' S', F17_L1 call n0 (.ip [.str nm, i64 c] 0) (.osl j 0 L.length 3) t10 (i64 p) (.osl j 0 L.length 3) (i64 L.length) v (i64 k) S = some (.inl ([v', i64 ((k : Int) + 1)], S')) ∧
      Grow nB 3 S' v' (rows ++ if rejP L s p k = true then [flagR (L[k].rep, c)] else []) ∧ S.length ≤ S'.length ∧ (∀ i, i < nB → S'[i]? = S[i]?) ∧ (∀ i, i < S.length → NotOwn v i → S'[i]? = S[i]? ∧ NotOwn v' i) := by
  have hlt : (k : Int) < (L.length : Int) := by omega
  have w1 : IntKind.i64.wrap ((k : Int) + 1) = (k : Int) + 1 := wrap_in (by unfold In64; omega)
  have hw : ∀ x ∈ pts L, x.length = 3 := fun x hx => (pts_row x hx).1
  have hi : ∀ (q : Nat), q < L.length → indexAV 3 none (.osl j 0 L.length 3) (.int .i64 (q : Int)) = some (.ptr j (q * 3)) := fun q hq => by
    simp only [indexAV]
    rw [if_pos ⟨by omega, by omega, by trivial⟩]
    simp
  have hld : ∀ (q : Nat) (hq : q < L.length), loadV (some 3) (.ptr j (q * 3)) S = some (.agg [i64 (L[q]).rep, i64 (L[q]).time, i64 (L[q]).val]) := fun q hq => by
    obtain ⟨q1, q2⟩ := row_at hw q (by simpa using hq)
    simp only [loadV, hS, takeC]
    rw [if_pos q2, q1]
    simp [pts, ptR]
  have hip : ∀ (n : Option Nat) (cs : List AV) (o : Nat) (S : Store), loadV n (.ip cs o) S = takeC n cs o := fun _ _ _ _ => rfl
  have happ := hg.app (ys := [flagR (L[k].rep, c)]) (t := .full) hnB hrows (fun y hy => flagRows_row (l := [(L[k].rep, c)]) y (by simpa [flagRows] using hy)) (by simp) (by have : room = 4294967296 := rfl; simp; omega)
  obtain ⟨v', S', a1, a2, a3, a4, a5, a6, ln, a7⟩ := happ
  subst a7
  have yes : rejP L s p k = true → F17_J1 call n0 S.length (.osl S.length 0 ln 3) (i64 k) S' = some (.inl ([.osl S.length 0 ln 3, i64 ((k : Int) + 1)], S')) := fun _ => by
    have := nextS_grow (b := n0) (n := S.length) (m := S.length) (l := ln) (sz := 3) (x := .int .i64 ((k : Int) + 1)) (S := S') (Nat.le_refl _)
    simp [F17_J1, w1, this]
  have no : F17_J1 call n0 S.length v (i64 k) S = some (.inl ([v, i64 ((k : Int) + 1)], S)) := by
    have := nextS_same (b := n0) (vs := [v, .int .i64 ((k : Int) + 1)]) (S := S)
    simp [F17_J1, w1, this]
  simp only [flagR] at a1
  have res : F17_L1 call n0 (.ip [.str nm, i64 c] 0) (.osl j 0 L.length 3) t10 (i64 p) (.osl j 0 L.length 3) (i64 L.length) v (i64 k) S = if rejP L s p k = true then F17_J1 call n0 S.length (.osl S.length 0 ln 3) (i64 k) S' else F17_J1 call n0 S.length v (i64 k) S := by
    unfold rejP spkP
    generalize hb1 : (decide (0 < s) && stepP L s k) = b1 at ha2 ⊢
    have hh : CkH j k L S t10 a b1 := ⟨hk, hi, hld, ha, ha2⟩
    cases b1 with
    | true => exact ck_true hh a1
    | false =>
      by_cases hp : 0 < p
      · by_cases hk0 : 0 < k
        · by_cases hk1 : k + 1 < L.length
          · have hkm : k - 1 < L.length := by omega
            have sp := s_spike (p := p) (hL _ (List.getElem_mem hkm)) (hL _ (List.getElem_mem hk)) (hL _ (List.getElem_mem hk1)) S
            simp only [ptR] at sp
            rw [getD_pt hkm, getD_pt hk, getD_pt hk1]
            cases hsp : spikeP L[k - 1] L[k] L[k + 1] p with
            | true =>
              rw [hsp] at sp
              rw [ck_t hh hp hk0 hk1 hl sp a1]
              simp [hp, hk0, hk1]
            | false =>
              rw [hsp] at sp
              rw [ck_f hh hp hk0 hk1 hl sp]
              simp
          · rw [ck_l hh hp hk0 hk1 hl]
            simp [hk1]
        · rw [ck_k hh hp hk0]
          simp [hk0]
      · rw [ck_p hh hp]
        simp [hp]
  cases hc : rejP L s p k with
  | true =>
    refine ⟨_, _, (by rw [res, if_pos hc]; exact yes hc), by simpa [hc] using a2, a3, a4, fun i hi ho => ⟨a5 i hi ho, a6 i hi⟩⟩
  | false =>
    exact ⟨v, S, (by rw [res, if_neg (by simp [hc])]; exact no), by simpa [hc] using hg, Nat.le_refl _, fun _ _ => rfl, fun i hi ho => ⟨rfl, ho⟩⟩

theorem flagsOf_succ {L : List Pt} {s p c : Int} {k : Nat} (hk : k < L.length) : flagRows (flagsOf L s p c (k + 1)) = flagRows (flagsOf L s p c k) ++ if rejP L s p k = true then [flagR (L[k].rep, c)] else [] := by
  unfold flagsOf flagRows
  rw [List.range_succ, List.filter_append, List.map_append, List.map_append]
  congr 1
  by_cases h : rejP L s p k = true
  · simp [h, hk]
  · simp [h]

theorem flagsOf_le {L : List Pt} {s p c : Int} {n : Nat} : (flagsOf L s p c n).length ≤ n := by
  unfold flagsOf
  rw [List.length_map]
  exact Nat.le_trans (List.length_filter_le _ _) (by simp)

/-- The readings of a line: those that are rejected are told. 'q': an entry that must stay as_ it is. -/
theorem check_line {n0 nB j : Nat} {L : List Pt} {nm : List UInt8} {c s p : Int} {S0 : Store} {v t10 : AV} {rows : List (List AV)} (q : Option Nat)
    (hL : ∀ q ∈ L, q.Ok) (hl : L.length ≤ 1000000) (hj : j < nB) (hS : S0[j]? = some (.obj (pts L).flatten)) (hg : Grow nB 3 S0 v rows) (hnB : nB ≤ S0.length) (hrows : ∀ x ∈ rows, x.length = 3) (hrl : rows.length ≤ 1000000)
    (hq : ∀ i, q = some i → i < S0.length ∧ NotOwn v i)
    (hrd : ∀ S : Store, (∀ i, q = some i → S[i]? = S0[i]?) → ∀ k, k < L.length → ∃ a, indexAV 1 none t10 (.int .i64 k) = some a ∧ loadV none a S = some (.bool (decide (0 < s) && stepP L s k))) :
    ∃ v' S', iter (fun st => F17_L1 call n0 (.ip [.str nm, i64 c] 0) (.osl j 0 L.length 3) t10 (i64 p) (.osl j 0 L.length 3) (i64 L.length) (st.1.getD 0 .u) (st.1.getD 1 .u) st.2) ([v, i64 0], S0) = some (.exit 2, [v'], S') ∧
      Grow nB 3 S' v' (rows ++ flagRows (flagsOf L s p c L.length)) ∧ S0.length ≤ S'.length ∧ (∀ i, i < nB → S'[i]? = S0[i]?) := by
  have key := iter_to (step := fun st => F17_L1 call n0 (.ip [.str nm, i64 c] 0) (.osl j 0 L.length 3) t10 (i64 p) (.osl j 0 L.length 3) (i64 L.length) (st.1.getD 0 .u) (st.1.getD 1 .u) st.2)
    (fun k st => ∃ v1 S1, st = ([v1, i64 (k : Nat)], S1) ∧ Grow nB 3 S1 v1 (rows ++ flagRows (flagsOf L s p c k)) ∧ S0.length ≤ S1.length ∧ (∀ i, i < nB → S1[i]? = S0[i]?) ∧ ∀ i, q = some i → i < S1.length ∧ NotOwn v1 i ∧ S1[i]? = S0[i]?)
    (fun r => ∃ v' S', r = (.exit 2, [v'], S') ∧ Grow nB 3 S' v' (rows ++ flagRows (flagsOf L s p c L.length)) ∧ S0.length ≤ S'.length ∧ (∀ i, i < nB → S'[i]? = S0[i]?)) L.length
    (fun k st hk ⟨v1, S1, hst, h1, h2, h3, h4⟩ => by
      subst hst
      obtain ⟨a, ha, ha2⟩ := hrd S1 (fun i hi => (h4 i hi).2.2) k hk
      have hle := flagsOf_le (L := L) (s := s) (p := p) (c := c) (n := k)
      obtain ⟨v', S', e1, e2, e3, e4, e5⟩ := check_round (n0 := n0) (nm := nm) (c := c) hL hl hk (by rw [h3 j hj]; exact hS) h1 (by omega) (by
        intro x hx
        rcases List.mem_append.1 hx with hx | hx
        · exact hrows x hx
        · exact (flagRows_row x hx).1) (by simp [flagRows]; omega) ha ha2
      refine ⟨_, e1, v', S', rfl, ?_, by omega, fun i hi => (e4 i hi).trans (h3 i hi), fun i hi => ?_⟩
      · rw [flagsOf_succ hk, ← List.append_assoc]; exact e2
      · obtain ⟨f1, f2, f3⟩ := h4 i hi
        obtain ⟨g1, g2⟩ := e5 i f1 f2
        exact ⟨by omega, g2, g1.trans f3⟩)
    (fun st ⟨v1, S1, hst, h1, h2, h3, _⟩ => by
      subst hst
      exact ⟨(.exit 2, [v1], S1), by simp [F17_L1], v1, S1, rfl, h1, h2, h3⟩) 0 ([v, i64 0], S0) (Nat.zero_le _) ⟨v, S0, rfl, by simpa [flagsOf, flagRows] using hg, Nat.le_refl _, fun _ _ => rfl, fun i hi => ⟨(hq i hi).1, (hq i hi).2, rfl⟩⟩
  obtain ⟨r, h1, v', S', rfl, h2, h3, h4⟩ := key
  exact ⟨v', S', h1, h2, h3, h4⟩

theorem keyFlags_le {l : List Rep} {k : Ctl} {x : Key} : (keyFlags l k x).length ≤ (ptsOf (allR l 0) x).length := by
  unfold keyFlags
  rw [← lineP_length]
  exact flagsOf_le

theorem seen_flags_le {d : List (Key × Pt)} : ∀ (K : List Key), K.Nodup → (K.map fun x => (ptsOf d x).length).sum ≤ d.length := by
  induction d with
  | nil =>
    intro K _
    have : ∀ K : List Key, (K.map fun _ => 0).sum = 0 := by intro K; induction K <;> simp_all
    simpa [ptsOf] using this K
  | cons e d ih =>
    intro K hK
    have h1 := ih K hK
    have h2 : (K.map fun x => (ptsOf (e :: d) x).length).sum ≤ (K.map fun x => (ptsOf d x).length).sum + 1 := by
      clear ih h1
      induction K with
      | nil => simp
      | cons a K ih =>
        rw [List.nodup_cons] at hK
        simp only [List.map_cons, List.sum_cons]
        by_cases h : e.1 = a
        · have hno : (K.map fun x => (ptsOf (e :: d) x).length) = K.map fun x => (ptsOf d x).length := by
            apply List.map_congr_left
            intro y hy
            have : ¬ e.1 = y := fun h' => hK.1 (by rw [← h, h']; exact hy)
            simp [ptsOf, this]
          rw [hno]
          simp [ptsOf, h]; omega
        · have := ih hK.2
          have h3 : (ptsOf (e :: d) a).length = (ptsOf d a).length := by simp [ptsOf, h]
          omega
    simp only [List.length_cons]
    omega

theorem perm_flatMap {K : List Key} {g : Key → List (Int × Int)} {seen : List Nat} (h1 : seen.Nodup) (h2 : ∀ q ∈ seen, q < K.length) (h3 : seen.length = K.length) : (seen.flatMap fun q => g (K.getD q ([], 0))).Perm (K.flatMap g) := by
  have hp : seen.Perm (List.range K.length) := by
    refine (List.perm_ext_iff_of_nodup h1 List.nodup_range).2 fun q => ?_
    have hl := left_length h1 h2
    constructor
    · intro hq; exact List.mem_range.2 (h2 q hq)
    · intro hq
      have : ((List.range K.length).filter fun j => !memN j seen) = [] := List.eq_nil_of_length_eq_zero (by omega)
      have := List.filter_eq_nil_iff.1 this q hq
      simpa [memN_eq] using this
  refine (hp.flatMap_right _).trans ?_
  have : (List.range K.length).flatMap (fun q => g (K.getD q ([], 0))) = K.flatMap g := by
    clear hp h1 h2 h3
    rw [List.flatMap_def, List.flatMap_def]
    congr 1
    apply List.ext_getElem (by simp)
    intro i i1 i2
    have : i < K.length := by simpa using i2
    simp [this]
  rw [this]

theorem flatMap_length_le {K : List Key} {l : List Rep} {k : Ctl} (hK : K.Nodup) {seen : List Nat} (h1 : seen.Nodup) (h2 : ∀ q ∈ seen, q < K.length) : (seen.flatMap fun q => keyFlags l k (K.getD q ([], 0))).length ≤ (allR l 0).length := by
  have h3 := seen_flags_le (d := allR l 0) (seen.map fun q => K.getD q ([], 0)) (by
    rw [List.Nodup, List.pairwise_map]
    refine List.Pairwise.imp_of_mem (fun {a b} ha hb hab e => hab ?_) h1
    have ha' := h2 a ha
    have hb' := h2 b hb
    rw [List.getD_eq_getElem?_getD, List.getD_eq_getElem?_getD, List.getElem?_eq_getElem ha', List.getElem?_eq_getElem hb', Option.getD_some, Option.getD_some] at e
    exact (List.getElem_inj hK).1 e)
  refine Nat.le_trans ?_ h3
  rw [List.map_map]
  clear h1 h2 h3
  induction seen with
  | nil => simp
  | cons q seen ih =>
    simp only [List.flatMap_cons, List.length_append, List.map_cons, List.sum_cons, Function.comp] at ih ⊢
    have := keyFlags_le (l := l) (k := k) (x := K.getD q ([], 0))
    omega

end Go.Proofs.YtlilahgndpdkfaaDoor

/-
  What timeline's Check answers: the whole.
-/
namespace Go.Proofs.YtlilahgndpdkfaaDoor
open Go Go.Abs

theorem ctl_get {k : Ctl} (hk : k.Fit) {c : Int} (h1 : 1 ≤ c) (h2 : c ≤ 11) :
    indexAV 1 (some 12) (.ip (ctlC k) 1) (.int .i64 c) = some (.ip (ctlC k) (1 + c.toNat * 1)) ∧ takeC none (ctlC k) (1 + c.toNat * 1) = some (i64 (stepOf k c)) ∧
    indexAV 1 (some 12) (.ip (ctlC k) 13) (.int .i64 c) = some (.ip (ctlC k) (13 + c.toNat * 1)) ∧ takeC none (ctlC k) (13 + c.toNat * 1) = some (i64 (spikeOf k c)) := by
  have hc : c.toNat < 12 := by omega
  refine ⟨by simp only [indexAV]; rw [if_pos ⟨by omega, by omega⟩], ?_, by simp only [indexAV]; rw [if_pos ⟨by omega, by omega⟩], ?_⟩
  · show (ctlC k)[1 + c.toNat * 1]? = _
    unfold ctlC stepOf
    rw [Nat.mul_one, Nat.add_comm, List.getElem?_cons_succ, List.getElem?_map, List.append_assoc, List.getElem?_append_left (by rw [hk.steps]; exact hc), List.getElem?_eq_getElem (by rw [hk.steps]; exact hc)]
    simp [hk.steps, hc]
  · show (ctlC k)[13 + c.toNat * 1]? = _
    unfold ctlC spikeOf
    rw [Nat.mul_one, show 13 + c.toNat = 12 + c.toNat + 1 by omega, List.getElem?_cons_succ, List.getElem?_map, List.append_assoc, List.getElem?_append_right (by rw [hk.steps]; omega), hk.steps, show 12 + c.toNat - 12 = c.toNat by omega,
      List.getElem?_append_left (by rw [hk.spikes]; exact hc), List.getElem?_eq_getElem (by rw [hk.spikes]; exact hc)]
    simp [hk.spikes, hc]

set_option maxHeartbeats 8000000 in
theorem s_CheckOK {l : List Rep} {t : Tok} {k : Ctl} (hk : k.Fit) (hl : l.length ≤ 1000000) (hla : (allR l 0).length ≤ 1000000) (he : examP l k = 0) {F : List (Int × Int)} (hF : F.Pairwise lt2) (hFp : F.Perm ((seenK ((allR l 0).map (·.1))).flatMap (keyFlags l k))) (S : Store) :
    call 17 [.sl (reps l) t, .agg (ctlC k)] S = some (.tup [.sl (flagRows F) (if flagRows F = [] then .full else .none), i64 0], S) := by
  obtain ⟨hgood, hps, hpk⟩ := examP_zero he
  rw [k17]
  unfold F17
  have hexam := s_examine (l := l) (t := t) (k := k) hk hl (fun r hr => by
    obtain ⟨j, hj, rfl⟩ := List.getElem_of_mem hr
    have : allR l 0 = allR (l.take (j + 1)) 0 ++ allR (l.drop (j + 1)) (0 + (l.take (j + 1)).length) := by rw [← allR_append, List.take_append_drop]
    rw [this, allR_take hj] at hla
    simp only [List.length_append, entR, List.length_map] at hla
    omega) S
  rw [he] at hexam
  obtain ⟨Sb, idx, hlines, hlo, hlow, hlen⟩ := s_lines (l := l) (t := t) hla hl hgood.times S
  have hmapB := hlo.map
  have himm : imms (ctlC k) = some (ctlC k) := by
    have := imms_i64s (k.hops :: (k.steps ++ k.spikes ++ k.rest))
    simpa [ctlC] using this
  have hlc : (ctlC k).length = 41 := by simp [ctlC, hk.steps, hk.spikes, hk.rest]
  have hta : takeC (some 41) (ctlC k) 0 = some (.agg (ctlC k)) := by
    simp only [takeC]
    rw [if_pos (by omega), List.drop_zero, List.take_of_length_le (by omega)]
  have hrv : rangeV (.map S.length) Sb = some (.ptr Sb.length 0, Sb ++ [.iter S.length (seenK ((allR l 0).map (·.1))).length []]) := by
    simp only [rangeV, hmapB, List.length_map]
  generalize hKe : seenK ((allR l 0).map (·.1)) = K at hFp hmapB hrv
  have hKn : K.Nodup := hKe ▸ seenK_nodup _
  have hst := stepI_eq (S := Sb ++ [.iter S.length K.length []]) (i := Sb.length) (m := S.length) (n := K.length) (seen := []) (by simp) (by rw [List.getElem?_append_left hlen]; exact hmapB) (by simp)
  have hleft : leftI (.ptr Sb.length 0) (Sb ++ [.iter S.length K.length []]) = K.length := by
    unfold leftI
    rw [hst]
    simp only [Option.getD_some, List.length_map]
    have := left_length (n := K.length) (seen := []) .nil (fun _ h => by cases h)
    simpa only [List.length_nil, Nat.add_zero] using this
  refine bind_of (by simp [himm] <;> rfl) ?_
  refine bind_of (by simp only [List.getD_cons_zero, loadV_ip, hta] <;> rfl) ?_
  refine bind_of (by simp [himm] <;> rfl) ?_
  refine bind_of (by simp [hexam] <;> rfl) ?_
  refine bind_of (by simp <;> rfl) ?_
  refine cond_f (by rfl) ?_
  refine bind_of (by simp <;> rfl) ?_
  refine bind_of (by simp [hlines] <;> rfl) ?_
  refine bind_of hrv ?_
  rw [hleft]
  refine rangeK_rule (it := .ptr Sb.length 0) (fun n vs S1 => ∃ v seen, vs = [v] ∧ seen.Nodup ∧ (∀ q ∈ seen, q < K.length) ∧ n + seen.length = K.length ∧ S1[Sb.length]? = some (.iter S.length K.length seen) ∧ Sb.length + 1 ≤ S1.length ∧
      (∀ j, j < Sb.length → S1[j]? = Sb[j]?) ∧ Grow (Sb.length + 1) 3 S1 v (flagRows (seen.flatMap fun q => keyFlags l k (K.getD q ([], 0))))) ?_ ?_ K.length [.sl [] .full] (Sb ++ [.iter S.length K.length []])
    ⟨_, [], rfl, .nil, fun _ h => (by cases h), rfl, by simp, by simp, fun j hj => (by rw [List.getElem?_append_left hj]), Grow.nil _ _ _⟩
  · -- the end
    rintro vs S1 ⟨v, seen, rfl, s1, s2, s3, s4, s5, s6, s7⟩
    have hmap : S1[S.length]? = some (.map (K.map (entL (allR l 0) idx))) := by rw [s6 _ hlen]; exact hmapB
    have hlf := left_length s1 s2
    refine ⟨?_, ?_⟩
    · rw [stepI_eq s4 hmap (by simp), List.eq_nil_of_length_eq_zero (l := (List.range K.length).filter fun j => !memN j seen) (by omega)]
      rfl
    · have hperm := perm_flatMap (K := K) (g := keyFlags l k) s1 s2 (by omega)
      have hg : Grow (Sb.length + 1) 3 (S1.set Sb.length .dead) v (flagRows (seen.flatMap fun q => keyFlags l k (K.getD q ([], 0)))) := s7.keep fun j hj _ => List.getElem?_set_ne (by omega)
      have hle := flatMap_length_le (l := l) (k := k) hKn s1 s2
      obtain ⟨S2, e1, e2, e3, e4⟩ := sortV_flags (f := 38) hg hF (hFp.trans hperm.symm) (by omega)
      have hcall : call 37 [v, .clo 38 []] (S1.set Sb.length .dead) = some (.tup [], S2) := by
        rw [k37]; exact e1
      have hargs : argVs [v, .clo 38 []] = some [v, .clo 38 []] := by
        rcases hg with ⟨_, rfl⟩ | ⟨_, i, _, rfl, _⟩ <;> simp
      have hfin := e2.fin (m := S.length) (by omega) flagRows_row
      have htake : S2.take S.length = S := by
        apply List.ext_getElem?
        intro j
        rw [List.getElem?_take]
        split
        · rename_i hj
          rw [e4 j (by omega), List.getElem?_set_ne (by omega), s6 j (by omega)]
          exact hlow j hj
        · rw [List.getElem?_eq_none (by omega)]
      show condK (.bool false) _ _ = _
      refine cond_f rfl ?_
      refine bind_of (by exact hargs) ?_
      refine bind_of (by exact hcall) ?_
      have hf2 : fins S.length S2 [v, i64 0] = some [.sl (flagRows F) (if flagRows F = [] then .full else .none), i64 0] := by
        show (fin1 S.length S2 v).bind _ = _
        rw [hfin]
        rfl
      show finish false S.length [v, i64 0] S2 = _
      rw [finish_eq hf2 (by split <;> simp [belows, below]), htake]
      rfl
  · -- a round
    rintro n vs S1 ⟨v, seen, rfl, s1, s2, s3, s4, s5, s6, s7⟩
    have hmap : S1[S.length]? = some (.map (K.map (entL (allR l 0) idx))) := by rw [s6 _ hlen]; exact hmapB
    have hlf := left_length s1 s2
    refine ⟨_, stepI_eq s4 hmap (by simp), ?_, ?_⟩
    · intro h
      have := congrArg List.length h
      simp only [List.length_map, List.length_nil] at this
      omega
    · intro c hc Kn hKn'
      obtain ⟨q, hq, rfl⟩ := List.mem_map.1 hc
      simp only [List.mem_filter, List.mem_range, memN_eq, Bool.not_eq_true', decide_eq_false_iff_not] at hq
      obtain ⟨hq1, hq2⟩ := hq
      have hx := List.getElem_mem hq1
      generalize hxe : K[q] = x at hx
      have hxs : x ∈ seenK ((allR l 0).map (·.1)) := hKe.symm ▸ hx
      obtain ⟨o1, o2⟩ := hlo.obj x hxs
      have hix : idx x < Sb.length := (List.getElem?_eq_some_iff.1 o2).1
      have hlp := lineP_length l x
      have hL1 : 1 ≤ (lineP l x).length := by rw [hlp]; exact List.length_pos_iff.2 (ptsOf_ne hxs)
      have hLl : (lineP l x).length ≤ 1000000 := by have := ptsOf_le (allR l 0) x; omega
      have hLok : ∀ p ∈ lineP l x, p.Ok := fun p hp => (hgood.line hp).1
      obtain ⟨hc1, hc2⟩ := (hgood.line (List.getElem_mem (show 0 < (lineP l x).length by omega))).2
      obtain ⟨g1, g2, g3, g4⟩ := ctl_get hk hc1 hc2
      have hlS : Sb.length < S1.length := by omega
      -- the store behind the step
      generalize hT : S1.set Sb.length (.iter S.length K.length (seen ++ [q])) = T1
      have hTl : T1.length = S1.length := by rw [← hT]; simp
      have hTit : T1[Sb.length]? = some (.iter S.length K.length (seen ++ [q])) := by rw [← hT, List.getElem?_set_self hlS]
      have hTlow : ∀ j, j < Sb.length → T1[j]? = Sb[j]? := fun j hj => by rw [← hT, List.getElem?_set_ne (by omega)]; exact s6 j hj
      have hTg : Grow (Sb.length + 1) 3 T1 v (flagRows (seen.flatMap fun q => keyFlags l k (K.getD q ([], 0)))) := s7.keep fun j hj _ => by rw [← hT]; exact List.getElem?_set_ne (by omega)
      have hent : entryV (.ptr Sb.length 0) T1 = some (.tup [kvS x, .osl (idx x) 0 (lineP l x).length 3]) := by
        simp only [entryV, hTit]
        rw [hTlow _ hlen, hmapB]
        simp only [List.getLast?_concat, List.length_map, if_true, List.getElem?_map, List.getElem?_eq_getElem hq1, hxe, Option.map_some, Option.bind_some, entL, hlp]
      have hroom : room = 4294967296 := rfl
      have hms : msliceV [.bool false] (.int .i64 (lineP l x).length) (.int .i64 (lineP l x).length) T1 = some (.osl T1.length 0 (lineP l x).length 1, T1 ++ [.obj ((List.replicate (lineP l x).length false).map .bool)]) := by
        simp only [msliceV]
        rw [if_pos ⟨by omega, by omega, by omega⟩, Int.toNat_natCast, zero_flat]
        rfl
      have hsr : 0 ≤ stepOf k x.2 ∧ stepOf k x.2 ≤ 10000 := by
        unfold stepOf
        rw [List.getD_eq_getElem?_getD, List.getElem?_eq_getElem (by rw [hk.steps]; omega)]
        exact possP_get hps (List.getElem_mem _)
      have hS0 : (T1 ++ [Ent.obj ((List.replicate (lineP l x).length false).map .bool)])[idx x]? = some (.obj (pts (lineP l x)).flatten) := by
        rw [List.getElem?_append_left (by omega), hTlow _ hix]; exact o2
      have hG0 : Grow (Sb.length + 1) 3 (T1 ++ [Ent.obj ((List.replicate (lineP l x).length false).map .bool)]) v (flagRows (seen.flatMap fun q => keyFlags l k (K.getD q ([], 0)))) := hTg.keep fun j _ hj => List.getElem?_append_left hj
      have hle := flatMap_length_le (l := l) (k := k) hKn s1 s2
      have hrow3 : ∀ y ∈ flagRows (seen.flatMap fun q => keyFlags l k (K.getD q ([], 0))), y.length = 3 := fun y hy => (flagRows_row y hy).1
      have hKq : keyFlags l k x = keyFlags l k (K.getD q ([], 0)) := by rw [List.getD_eq_getElem?_getD, List.getElem?_eq_getElem hq1, hxe]; rfl
      -- what follows behind a round
      have done : ∀ v' S', Grow (Sb.length + 1) 3 S' v' (flagRows (seen.flatMap fun q => keyFlags l k (K.getD q ([], 0))) ++ flagRows (flagsOf (lineP l x) (stepOf k x.2) (spikeOf k x.2) x.2 (lineP l x).length)) → (T1 ++ [Ent.obj ((List.replicate (lineP l x).length false).map .bool)]).length ≤ S'.length →
          (∀ i, i < Sb.length + 1 → S'[i]? = (T1 ++ [Ent.obj ((List.replicate (lineP l x).length false).map .bool)])[i]?) → Kn [v'] S' = some (.tup [.sl (flagRows F) (if flagRows F = [] then .full else .none), i64 0], S) := fun v' S' d1 d2 d3 => by
        refine hKn' [v'] S' ⟨v', seen ++ [q], rfl, ?_, ?_, by simp; omega, ?_, by simp at d2; omega, fun j hj => ?_, ?_⟩
        · rw [List.nodup_append]
          exact ⟨s1, by simp, fun a ha b hb => by simp at hb; subst hb; intro e; subst e; exact hq2 ha⟩
        · intro p hp
          rcases List.mem_append.1 hp with hp | hp
          · exact s2 p hp
          · simp at hp; subst hp; exact hq1
        · rw [d3 _ (by omega), List.getElem?_append_left (by omega)]; exact hTit
        · rw [d3 j (by omega), List.getElem?_append_left (by omega)]; exact hTlow j hj
        · have : flagRows ((seen ++ [q]).flatMap fun q => keyFlags l k (K.getD q ([], 0))) = flagRows (seen.flatMap fun q => keyFlags l k (K.getD q ([], 0))) ++ flagRows (keyFlags l k x) := by
            rw [List.flatMap_append, hKq]; simp [flagRows]
          rw [this]
          exact d1
      have hkv : kvS x = .agg [.str x.1, i64 x.2] := rfl
      rw [hkv] at hent
      subst hT
      show condK (.bool true) _ _ = _
      refine cond_t rfl ?_
      refine bind_of (by exact hent) ?_
      refine bind_of (by rfl) ?_
      refine bind_of (by rfl) ?_
      refine bind_of (by simp <;> rfl) ?_
      refine ite_of (by rfl) ?_
      refine bind_of (by rfl) ?_
      refine bind_of (by exact hms) ?_
      refine bind_of (by rfl) ?_
      refine bind_of (by rfl) ?_
      refine bind_of (by rfl) ?_
      refine bind_of (by exact g1) ?_
      refine bind_of (by exact g2) ?_
      refine bind_of (by rfl) ?_
      by_cases hrate : 0 < stepOf k x.2
      · have hst := s_steps hLok hL1 hLl hsr.1 hsr.2 hS0
        obtain ⟨v', S', e1, e2, e3, e4⟩ := check_line (n0 := S.length) (nB := Sb.length + 1) (nm := x.1) (c := x.2) (s := stepOf k x.2) (p := spikeOf k x.2) (t10 := .sl (bools (markP (lineP l x) (stepOf k x.2) (lineP l x).length)) .none) none hLok hLl (by omega) hS0 hG0 (by simp; omega) hrow3 (by rw [flagRows_length]; omega)
          (fun i h => by cases h) (fun S' _ j hj => by
            have hjm : j < (markP (lineP l x) (stepOf k x.2) (lineP l x).length).length := by simpa using hj
            have hb := at_bools hjm
            have hv : (markP (lineP l x) (stepOf k x.2) (lineP l x).length)[j] = (decide (0 < stepOf k x.2) && stepP (lineP l x) (stepOf k x.2) j) := by simp [markP, hrate, hj]
            rw [hv] at hb
            exact ⟨.ip [.bool (decide (0 < stepOf k x.2) && stepP (lineP l x) (stepOf k x.2) j)] 0, by simp only [indexAV, hb, Option.bind_some]; rfl, rfl⟩)
        refine cond_t (by simp [hrate]) ?_
        refine bind_of (by rfl) ?_
        refine bind_of (by exact hst) ?_
        refine bind_of (by rfl) ?_
        refine bind_of (by rfl) ?_
        refine bind_of (by rfl) ?_
        refine bind_of (by exact g3) ?_
        refine bind_of (by exact g4) ?_
        refine bind_of (by rfl) ?_
        refine bind_of (by exact e1) ?_
        exact done v' S' e2 e3 e4
      · obtain ⟨v', S', e1, e2, e3, e4⟩ := check_line (n0 := S.length) (nB := Sb.length + 1) (nm := x.1) (c := x.2) (s := stepOf k x.2) (p := spikeOf k x.2) (t10 := .osl (S1.set Sb.length (.iter S.length K.length (seen ++ [q]))).length 0 (lineP l x).length 1) (some (S1.set Sb.length (.iter S.length K.length (seen ++ [q]))).length) hLok hLl (by omega) hS0 hG0 (by simp; omega) hrow3 (by rw [flagRows_length]; omega)
          (fun i h => by
            cases h
            refine ⟨by simp, fun i o l' sz hv => ?_⟩
            rcases hTg with ⟨_, h⟩ | ⟨_, i', _, h, h'⟩
            · rw [h] at hv; cases hv
            · rw [h] at hv; cases hv
              have := (List.getElem?_eq_some_iff.1 h').1
              omega) (fun S' hS' j hj => ⟨.ptr (S1.set Sb.length (.iter S.length K.length (seen ++ [q]))).length j, by
            simp only [indexAV]
            rw [if_pos ⟨by omega, by omega, by trivial⟩]
            simp, by
            have h0 := hS' _ rfl
            rw [List.getElem?_concat_length] at h0
            simp only [loadV, h0, takeC, List.getElem?_map]
            rw [List.getElem?_replicate, if_pos hj]
            simp [hrate]⟩)
        refine cond_f (by simp [hrate]) ?_
        refine bind_of (by rfl) ?_
        refine bind_of (by rfl) ?_
        refine bind_of (by rfl) ?_
        refine bind_of (by exact g3) ?_
        refine bind_of (by exact g4) ?_
        refine bind_of (by rfl) ?_
        refine bind_of (by exact e1) ?_
        exact done v' S' e2 e3 e4

end Go.Proofs.YtlilahgndpdkfaaDoor
