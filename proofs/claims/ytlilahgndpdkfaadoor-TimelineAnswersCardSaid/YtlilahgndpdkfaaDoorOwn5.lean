/-
  Texts of this claim: TlCheck, TlCheckM, TlRef04, TlRef16, TlRef16b, TlRefLine, TlRefChk, TlRefChk1, TlRefChk2, TlRefChk3, TlRefChk4, TlRefChk5, TlBoth, TlGen0, TlGen1, TlGen2, TlAwakeT, TlGen3, TlGen4, TlPlace, TlPlace2, TlPlace3, TlGenP, TlGenB.
-/
import Derived.Test.YtlilahgndpdkfaaDoorOwn1
import Derived.Test.YtlilahgndpdkfaaDoorOwn4
set_option linter.all false
/-
  What timeline's Check answers.
-/
namespace Go.Proofs.YtlilahgndpdkfaaDoor
open Go Go.Abs

theorem nextS_grow {b n m l sz : Nat} {x : AV} {S : Store} (hm : n ≤ m) : nextS b n [.osl m 0 l sz, x] S = some ([.osl m 0 l sz, x], S) := by
  simp [nextS, belows, below, blt_false hm]

/-- What is known at one reading of a line. -/
structure CkH (j k : Nat) (L : List Pt) (S : Store) (t10 a : AV) (b1 : Bool) : Prop where
  hk : k < L.length
  hi : ∀ (q : Nat), q < L.length → indexAV 3 none (.osl j 0 L.length 3) (.int .i64 (q : Int)) = some (.ptr j (q * 3))
  hld : ∀ (q : Nat) (hq : q < L.length), loadV (some 3) (.ptr j (q * 3)) S = some (.agg [i64 (L[q]).rep, i64 (L[q]).time, i64 (L[q]).val])
  ha : indexAV 1 none t10 (.int .i64 k) = some a
  ha2 : loadV none a S = some (.bool b1)

section
variable {n0 j k : Nat} {L : List Pt} {nm : List UInt8} {c p : Int} {S : Store} {v t10 : AV} {a : AV}

set_option maxHeartbeats 2000000 in
theorem ck_true {v2 : AV} {S2 : Store} (h : CkH j k L S t10 a true) (a1 : appendMV 3 v (.sl [[i64 (L[k]'h.hk).rep, i64 c, i64 4]] .full) S = some (v2, S2)) :
    F17_L1 call n0 (.ip [.str nm, i64 c] 0) (.osl j 0 L.length 3) t10 (i64 p) (.osl j 0 L.length 3) (i64 L.length) v (i64 k) S = F17_J1 call n0 S.length v2 (i64 k) S2 := by
  obtain ⟨hk, hi, hld, ha, ha2⟩ := h
  have hlt : (k : Int) < (L.length : Int) := by omega
  unfold F17_L1
  simp only []
  repeat (first
    | rfl
    | refine bind_of (by simp [-loadV, hlt, hi k hk, hld k hk, loadV_ip, ha, ha2, buildV, fillC, bsliceV, immRows, a1] <;> rfl) ?_
    | refine cond_t (by rfl) ?_
    | refine cond_f (by rfl) ?_
    | refine ite_of (by rfl) ?_)

set_option maxHeartbeats 2000000 in
theorem ck_p (h : CkH j k L S t10 a false) (hp : ¬ 0 < p) :
    F17_L1 call n0 (.ip [.str nm, i64 c] 0) (.osl j 0 L.length 3) t10 (i64 p) (.osl j 0 L.length 3) (i64 L.length) v (i64 k) S = F17_J1 call n0 S.length v (i64 k) S := by
  obtain ⟨hk, hi, hld, ha, ha2⟩ := h
  have hlt : (k : Int) < (L.length : Int) := by omega
  unfold F17_L1
  simp only []
  repeat (first
    | rfl
    | refine bind_of (by simp [-loadV, hlt, hi k hk, hld k hk, loadV_ip, ha, ha2, hp] <;> rfl) ?_
    | refine cond_t (by rfl) ?_
    | refine cond_f (by rfl) ?_
    | refine ite_of (by rfl) ?_)

set_option maxHeartbeats 2000000 in
theorem ck_k (h : CkH j k L S t10 a false) (hp : 0 < p) (hk0 : ¬ 0 < k) :
    F17_L1 call n0 (.ip [.str nm, i64 c] 0) (.osl j 0 L.length 3) t10 (i64 p) (.osl j 0 L.length 3) (i64 L.length) v (i64 k) S = F17_J1 call n0 S.length v (i64 k) S := by
  obtain ⟨hk, hi, hld, ha, ha2⟩ := h
  have hlt : (k : Int) < (L.length : Int) := by omega
  unfold F17_L1
  simp only []
  repeat (first
    | rfl
    | refine bind_of (by simp [-loadV, hlt, hi k hk, hld k hk, loadV_ip, ha, ha2, hp, hk0] <;> rfl) ?_
    | refine cond_t (by rfl) ?_
    | refine cond_f (by rfl) ?_
    | refine ite_of (by rfl) ?_)

set_option maxHeartbeats 2000000 in
theorem ck_l (h : CkH j k L S t10 a false) (hp : 0 < p) (hk0 : 0 < k) (hk1 : ¬ k + 1 < L.length) (hl : L.length ≤ 1000000) :
    F17_L1 call n0 (.ip [.str nm, i64 c] 0) (.osl j 0 L.length 3) t10 (i64 p) (.osl j 0 L.length 3) (i64 L.length) v (i64 k) S = F17_J1 call n0 S.length v (i64 k) S := by
  obtain ⟨hk, hi, hld, ha, ha2⟩ := h
  have hlt : (k : Int) < (L.length : Int) := by omega
  have w1 : IntKind.i64.wrap ((k : Int) + 1) = (k : Int) + 1 := wrap_in (by unfold In64; omega)
  have hk1' : ¬ ((k : Int) + 1 < (L.length : Int)) := by omega
  unfold F17_L1
  simp only []
  repeat (first
    | rfl
    | refine bind_of (by simp [-loadV, hlt, hi k hk, hld k hk, loadV_ip, ha, ha2, hp, hk0, hk1', w1] <;> rfl) ?_
    | refine cond_t (by rfl) ?_
    | refine cond_f (by rfl) ?_
    | refine ite_of (by rfl) ?_)

theorem ck_w (hk0 : 0 < k) (hl : k ≤ 1000000) : IntKind.i64.wrap ((k : Int) - 1) = ((k - 1 : Nat) : Int) ∧ IntKind.i64.wrap ((k : Int) + 1) = ((k + 1 : Nat) : Int) :=
  ⟨by rw [wrap_in (by unfold In64; omega)]; omega, by rw [wrap_in (by unfold In64; omega)]; rfl⟩

set_option maxHeartbeats 4000000 in
theorem ck_f (h : CkH j k L S t10 a false) (hp : 0 < p) (hk0 : 0 < k) (hk1 : k + 1 < L.length) (hl : L.length ≤ 1000000)
    (sp : call 36 [.agg [i64 (L[k - 1]'(by omega)).rep, i64 (L[k - 1]'(by omega)).time, i64 (L[k - 1]'(by omega)).val], .agg [i64 (L[k]'h.hk).rep, i64 (L[k]'h.hk).time, i64 (L[k]'h.hk).val], .agg [i64 (L[k + 1]).rep, i64 (L[k + 1]).time, i64 (L[k + 1]).val], i64 p] S = some (.bool false, S)) :
    F17_L1 call n0 (.ip [.str nm, i64 c] 0) (.osl j 0 L.length 3) t10 (i64 p) (.osl j 0 L.length 3) (i64 L.length) v (i64 k) S = F17_J1 call n0 S.length v (i64 k) S := by
  obtain ⟨hk, hi, hld, ha, ha2⟩ := h
  have hlt : (k : Int) < (L.length : Int) := by omega
  obtain ⟨w2, w1⟩ := ck_w hk0 (by omega)
  have hkm : k - 1 < L.length := by omega
  have hk2 : ((k + 1 : Nat) : Int) < (L.length : Int) := by omega
  unfold F17_L1
  simp only []
  repeat (first
    | rfl
    | refine bind_of (by simp [-loadV, -Int.natCast_add, hlt, hi k hk, hi _ hkm, hi _ hk1, hld k hk, hld _ hkm, hld _ hk1, loadV_ip, ha, ha2, hp, hk0, hk1, hk2, w1, w2, sp] <;> rfl) ?_
    | refine cond_t (by rfl) ?_
    | refine cond_f (by rfl) ?_
    | refine ite_of (by rfl) ?_)

set_option maxHeartbeats 4000000 in
theorem ck_t {v2 : AV} {S2 : Store} (h : CkH j k L S t10 a false) (hp : 0 < p) (hk0 : 0 < k) (hk1 : k + 1 < L.length) (hl : L.length ≤ 1000000)
    (sp : call 36 [.agg [i64 (L[k - 1]'(by omega)).rep, i64 (L[k - 1]'(by omega)).time, i64 (L[k - 1]'(by omega)).val], .agg [i64 (L[k]'h.hk).rep, i64 (L[k]'h.hk).time, i64 (L[k]'h.hk).val], .agg [i64 (L[k + 1]).rep, i64 (L[k + 1]).time, i64 (L[k + 1]).val], i64 p] S = some (.bool true, S))
    (a1 : appendMV 3 v (.sl [[i64 (L[k]'h.hk).rep, i64 c, i64 4]] .full) S = some (v2, S2)) :
    F17_L1 call n0 (.ip [.str nm, i64 c] 0) (.osl j 0 L.length 3) t10 (i64 p) (.osl j 0 L.length 3) (i64 L.length) v (i64 k) S = F17_J1 call n0 S.length v2 (i64 k) S2 := by
  obtain ⟨hk, hi, hld, ha, ha2⟩ := h
  have hlt : (k : Int) < (L.length : Int) := by omega
  obtain ⟨w2, w1⟩ := ck_w hk0 (by omega)
  have hkm : k - 1 < L.length := by omega
  have hk2 : ((k + 1 : Nat) : Int) < (L.length : Int) := by omega
  unfold F17_L1
  simp only []
  repeat (first
    | rfl
    | refine bind_of (by simp [-loadV, -Int.natCast_add, hlt, hi k hk, hi _ hkm, hi _ hk1, hld k hk, hld _ hkm, hld _ hk1, loadV_ip, ha, ha2, hp, hk0, hk1, hk2, w1, w2, sp, buildV, fillC, bsliceV, immRows, a1] <;> rfl) ?_
    | refine cond_t (by rfl) ?_
    | refine cond_f (by rfl) ?_
    | refine ite_of (by rfl) ?_)
end

set_option maxHeartbeats 8000000 in
/-- One reading of a line. -/
theorem check_round {n0 nB j k : Nat} {L : List Pt} {nm : List UInt8} {c s p : Int} {S : Store} {v t10 : AV} {rows : List (List AV)} {a : AV}
    (hL : ∀ q ∈ L, q.Ok) (hl : L.length ≤ 1000000) (hk : k < L.length) (hS : S[j]? = some (.obj (pts L).flatten)) (hg : Grow nB 3 S v rows) (hnB : nB ≤ S.length) (hrows : ∀ x ∈ rows, x.length = 3) (hrl : rows.length ≤ 2000000)
    (ha : indexAV 1 none t10 (.int .i64 k) = some a) (ha2 : loadV none a S = some (.bool (decide (0 < s) && stepP L s k))) :
    ∃ v' S', F17_L1 call n0 (.ip [.str nm, i64 c] 0) (.osl j 0 L.length 3) t10 (i64 p) (.osl j 0 L.length 3) (i64 L.length) v (i64 k) S = some (.inl ([v', i64 ((k : Int) + 1)], S')) ∧
      Grow nB 3 S' v' (rows ++ if rejP L s p k = true then [flagR (L[k].rep, c)] else []) ∧ S.length ≤ S'.length ∧ (∀ i, i < nB → S'[i]? = S[i]?) ∧ (∀ i, i < S.length → NotOwn v i → S'[i]? = S[i]? ∧ NotOwn v' i) := by
  have hlt : (k : Int) < (L.length : Int) := by omega
  have w1 : IntKind.i64.wrap ((k : Int) + 1) = (k : Int) + 1 := wrap_in (by unfold In64; omega)
  have hw : ∀ x ∈ pts L, x.length = 3 := fun x hx => (pts_row x hx).1
  have hi : ∀ (q : Nat), q < L.length → indexAV 3 none (.osl j 0 L.length 3) (.int .i64 (q : Int)) = some (.ptr j (q * 3)) := fun q hq => by
    simp only [indexAV]
    rw [if_pos ⟨by omega, by omega, by trivial⟩]
    simp
  have hld : ∀ (q : Nat) (hq : q < L.length), loadV (some 3) (.ptr j (q * 3)) S = some (.agg [i64 (L[q]).rep, i64 (L[q]).time, i64 (L[q]).val]) := fun q hq => by
    obtain ⟨q1, q2⟩ := row_at hw q (by simpa using hq)
    simp only [loadV, hS, takeC]
    rw [if_pos q2, q1]
    simp [pts, ptR]
  have hip : ∀ (n : Option Nat) (cs : List AV) (o : Nat) (S : Store), loadV n (.ip cs o) S = takeC n cs o := fun _ _ _ _ => rfl
  have happ := hg.app (ys := [flagR (L[k].rep, c)]) (t := .full) hnB hrows (fun y hy => flagRows_row (l := [(L[k].rep, c)]) y (by simpa [flagRows] using hy)) (by simp) (by have : room = 4294967296 := rfl; simp; omega)
  obtain ⟨v', S', a1, a2, a3, a4, a5, a6, ln, a7⟩ := happ
  subst a7
  have yes : rejP L s p k = true → F17_J1 call n0 S.length (.osl S.length 0 ln 3) (i64 k) S' = some (.inl ([.osl S.length 0 ln 3, i64 ((k : Int) + 1)], S')) := fun _ => by
    have := nextS_grow (b := n0) (n := S.length) (m := S.length) (l := ln) (sz := 3) (x := .int .i64 ((k : Int) + 1)) (S := S') (Nat.le_refl _)
    simp [F17_J1, w1, this]
  have no : F17_J1 call n0 S.length v (i64 k) S = some (.inl ([v, i64 ((k : Int) + 1)], S)) := by
    have := nextS_same (b := n0) (vs := [v, .int .i64 ((k : Int) + 1)]) (S := S)
    simp [F17_J1, w1, this]
  simp only [flagR] at a1
  have res : F17_L1 call n0 (.ip [.str nm, i64 c] 0) (.osl j 0 L.length 3) t10 (i64 p) (.osl j 0 L.length 3) (i64 L.length) v (i64 k) S = if rejP L s p k = true then F17_J1 call n0 S.length (.osl S.length 0 ln 3) (i64 k) S' else F17_J1 call n0 S.length v (i64 k) S := by
    unfold rejP spkP
    generalize hb1 : (decide (0 < s) && stepP L s k) = b1 at ha2 ⊢
    have hh : CkH j k L S t10 a b1 := ⟨hk, hi, hld, ha, ha2⟩
    cases b1 with
    | true => exact ck_true hh a1
    | false =>
      by_cases hp : 0 < p
      · by_cases hk0 : 0 < k
        · by_cases hk1 : k + 1 < L.length
          · have hkm : k - 1 < L.length := by omega
            have sp := s_spike (p := p) (hL _ (List.getElem_mem hkm)) (hL _ (List.getElem_mem hk)) (hL _ (List.getElem_mem hk1)) S
            simp only [ptR] at sp
            rw [getD_pt hkm, getD_pt hk, getD_pt hk1]
            cases hsp : spikeP L[k - 1] L[k] L[k + 1] p with
            | true =>
              rw [hsp] at sp
              rw [ck_t hh hp hk0 hk1 hl sp a1]
              simp [hp, hk0, hk1]
            | false =>
              rw [hsp] at sp
              rw [ck_f hh hp hk0 hk1 hl sp]
              simp
          · rw [ck_l hh hp hk0 hk1 hl]
            simp [hk1]
        · rw [ck_k hh hp hk0]
          simp [hk0]
      · rw [ck_p hh hp]
        simp [hp]
  cases hc : rejP L s p k with
  | true =>
    refine ⟨_, _, (by rw [res, if_pos hc]; exact yes hc), by simpa [hc] using a2, a3, a4, fun i hi ho => ⟨a5 i hi ho, a6 i hi⟩⟩
  | false =>
    exact ⟨v, S, (by rw [res, if_neg (by simp [hc])]; exact no), by simpa [hc] using hg, Nat.le_refl _, fun _ _ => rfl, fun i hi ho => ⟨rfl, ho⟩⟩

theorem flagsOf_succ {L : List Pt} {s p c : Int} {k : Nat} (hk : k < L.length) : flagRows (flagsOf L s p c (k + 1)) = flagRows (flagsOf L s p c k) ++ if rejP L s p k = true then [flagR (L[k].rep, c)] else [] := by
  unfold flagsOf flagRows
  rw [List.range_succ, List.filter_append, List.map_append, List.map_append]
  congr 1
  by_cases h : rejP L s p k = true
  · simp [h, hk]
  · simp [h]

theorem flagsOf_le {L : List Pt} {s p c : Int} {n : Nat} : (flagsOf L s p c n).length ≤ n := by
  unfold flagsOf
  rw [List.length_map]
  exact Nat.le_trans (List.length_filter_le _ _) (by simp)

/-- The readings of a line: those that are rejected are told. 'q': an entry that must stay as_ it is. -/
theorem check_line {n0 nB j : Nat} {L : List Pt} {nm : List UInt8} {c s p : Int} {S0 : Store} {v t10 : AV} {rows : List (List AV)} (q : Option Nat)
    (hL : ∀ q ∈ L, q.Ok) (hl : L.length ≤ 1000000) (hj : j < nB) (hS : S0[j]? = some (.obj (pts L).flatten)) (hg : Grow nB 3 S0 v rows) (hnB : nB ≤ S0.length) (hrows : ∀ x ∈ rows, x.length = 3) (hrl : rows.length ≤ 1000000)
    (hq : ∀ i, q = some i → i < S0.length ∧ NotOwn v i)
    (hrd : ∀ S : Store, (∀ i, q = some i → S[i]? = S0[i]?) → ∀ k, k < L.length → ∃ a, indexAV 1 none t10 (.int .i64 k) = some a ∧ loadV none a S = some (.bool (decide (0 < s) && stepP L s k))) :
    ∃ v' S', iter (fun st => F17_L1 call n0 (.ip [.str nm, i64 c] 0) (.osl j 0 L.length 3) t10 (i64 p) (.osl j 0 L.length 3) (i64 L.length) (st.1.getD 0 .u) (st.1.getD 1 .u) st.2) ([v, i64 0], S0) = some (.exit 2, [v'], S') ∧
      Grow nB 3 S' v' (rows ++ flagRows (flagsOf L s p c L.length)) ∧ S0.length ≤ S'.length ∧ (∀ i, i < nB → S'[i]? = S0[i]?) := by
  have key := iter_to (step := fun st => F17_L1 call n0 (.ip [.str nm, i64 c] 0) (.osl j 0 L.length 3) t10 (i64 p) (.osl j 0 L.length 3) (i64 L.length) (st.1.getD 0 .u) (st.1.getD 1 .u) st.2)
    (fun k st => ∃ v1 S1, st = ([v1, i64 (k : Nat)], S1) ∧ Grow nB 3 S1 v1 (rows ++ flagRows (flagsOf L s p c k)) ∧ S0.length ≤ S1.length ∧ (∀ i, i < nB → S1[i]? = S0[i]?) ∧ ∀ i, q = some i → i < S1.length ∧ NotOwn v1 i ∧ S1[i]? = S0[i]?)
    (fun r => ∃ v' S', r = (.exit 2, [v'], S') ∧ Grow nB 3 S' v' (rows ++ flagRows (flagsOf L s p c L.length)) ∧ S0.length ≤ S'.length ∧ (∀ i, i < nB → S'[i]? = S0[i]?)) L.length
    (fun k st hk ⟨v1, S1, hst, h1, h2, h3, h4⟩ => by
      subst hst
      obtain ⟨a, ha, ha2⟩ := hrd S1 (fun i hi => (h4 i hi).2.2) k hk
      have hle := flagsOf_le (L := L) (s := s) (p := p) (c := c) (n := k)
      obtain ⟨v', S', e1, e2, e3, e4, e5⟩ := check_round (n0 := n0) (nm := nm) (c := c) hL hl hk (by rw [h3 j hj]; exact hS) h1 (by omega) (by
        intro x hx
        rcases List.mem_append.1 hx with hx | hx
        · exact hrows x hx
        · exact (flagRows_row x hx).1) (by simp [flagRows]; omega) ha ha2
      refine ⟨_, e1, v', S', rfl, ?_, by omega, fun i hi => (e4 i hi).trans (h3 i hi), fun i hi => ?_⟩
      · rw [flagsOf_succ hk, ← List.append_assoc]; exact e2
      · obtain ⟨f1, f2, f3⟩ := h4 i hi
        obtain ⟨g1, g2⟩ := e5 i f1 f2
        exact ⟨by omega, g2, g1.trans f3⟩)
    (fun st ⟨v1, S1, hst, h1, h2, h3, _⟩ => by
      subst hst
      exact ⟨(.exit 2, [v1], S1), by simp [F17_L1], v1, S1, rfl, h1, h2, h3⟩) 0 ([v, i64 0], S0) (Nat.zero_le _) ⟨v, S0, rfl, by simpa [flagsOf, flagRows] using hg, Nat.le_refl _, fun _ _ => rfl, fun i hi => ⟨(hq i hi).1, (hq i hi).2, rfl⟩⟩
  obtain ⟨r, h1, v', S', rfl, h2, h3, h4⟩ := key
  exact ⟨v', S', h1, h2, h3, h4⟩

theorem keyFlags_le {l : List Rep} {k : Ctl} {x : Key} : (keyFlags l k x).length ≤ (ptsOf (allR l 0) x).length := by
  unfold keyFlags
  rw [← lineP_length]
  exact flagsOf_le

theorem seen_flags_le {d : List (Key × Pt)} : ∀ (K : List Key), K.Nodup → (K.map fun x => (ptsOf d x).length).sum ≤ d.length := by
  induction d with
  | nil =>
    intro K _
    have : ∀ K : List Key, (K.map fun _ => 0).sum = 0 := by intro K; induction K <;> simp_all
    simpa [ptsOf] using this K
  | cons e d ih =>
    intro K hK
    have h1 := ih K hK
    have h2 : (K.map fun x => (ptsOf (e :: d) x).length).sum ≤ (K.map fun x => (ptsOf d x).length).sum + 1 := by
      clear ih h1
      induction K with
      | nil => simp
      | cons a K ih =>
        rw [List.nodup_cons] at hK
        simp only [List.map_cons, List.sum_cons]
        by_cases h : e.1 = a
        · have hno : (K.map fun x => (ptsOf (e :: d) x).length) = K.map fun x => (ptsOf d x).length := by
            apply List.map_congr_left
            intro y hy
            have : ¬ e.1 = y := fun h' => hK.1 (by rw [← h, h']; exact hy)
            simp [ptsOf, this]
          rw [hno]
          simp [ptsOf, h]; omega
        · have := ih hK.2
          have h3 : (ptsOf (e :: d) a).length = (ptsOf d a).length := by simp [ptsOf, h]
          omega
    simp only [List.length_cons]
    omega

theorem perm_flatMap {K : List Key} {g : Key → List (Int × Int)} {seen : List Nat} (h1 : seen.Nodup) (h2 : ∀ q ∈ seen, q < K.length) (h3 : seen.length = K.length) : (seen.flatMap fun q => g (K.getD q ([], 0))).Perm (K.flatMap g) := by
  have hp : seen.Perm (List.range K.length) := by
    refine (List.perm_ext_iff_of_nodup h1 List.nodup_range).2 fun q => ?_
    have hl := left_length h1 h2
    constructor
    · intro hq; exact List.mem_range.2 (h2 q hq)
    · intro hq
      have : ((List.range K.length).filter fun j => !memN j seen) = [] := List.eq_nil_of_length_eq_zero (by omega)
      have := List.filter_eq_nil_iff.1 this q hq
      simpa [memN_eq] using this
  refine (hp.flatMap_right _).trans ?_
  have : (List.range K.length).flatMap (fun q => g (K.getD q ([], 0))) = K.flatMap g := by
    clear hp h1 h2 h3
    rw [List.flatMap_def, List.flatMap_def]
    congr 1
    apply List.ext_getElem (by simp)
    intro i i1 i2
    have : i < K.length := by simpa using i2
    simp [this]
  rw [this]

theorem flatMap_length_le {K : List Key} {l : List Rep} {k : Ctl} (hK : K.Nodup) {seen : List Nat} (h1 : seen.Nodup) (h2 : ∀ q ∈ seen, q < K.length) : (seen.flatMap fun q => keyFlags l k (K.getD q ([], 0))).length ≤ (allR l 0).length := by
  have h3 := seen_flags_le (d := allR l 0) (seen.map fun q => K.getD q ([], 0)) (by
    rw [List.Nodup, List.pairwise_map]
    refine List.Pairwise.imp_of_mem (fun {a b} ha hb hab e => hab ?_) h1
    have ha' := h2 a ha
    have hb' := h2 b hb
    rw [List.getD_eq_getElem?_getD, List.getD_eq_getElem?_getD, List.getElem?_eq_getElem ha', List.getElem?_eq_getElem hb', Option.getD_some, Option.getD_some] at e
    exact (List.getElem_inj hK).1 e)
  refine Nat.le_trans ?_ h3
  rw [List.map_map]
  clear h1 h2 h3
  induction seen with
  | nil => simp
  | cons q seen ih =>
    simp only [List.flatMap_cons, List.length_append, List.map_cons, List.sum_cons, Function.comp] at ih ⊢
    have := keyFlags_le (l := l) (k := k) (x := K.getD q ([], 0))
    omega

end Go.Proofs.YtlilahgndpdkfaaDoor

/-
  What timeline's Check answers: the whole.
-/
namespace Go.Proofs.YtlilahgndpdkfaaDoor
open Go Go.Abs

theorem ctl_get {k : Ctl} (hk : k.Fit) {c : Int} (h1 : 1 ≤ c) (h2 : c ≤ 11) :
    indexAV 1 (some 12) (.ip (ctlC k) 1) (.int .i64 c) = some (.ip (ctlC k) (1 + c.toNat * 1)) ∧ takeC none (ctlC k) (1 + c.toNat * 1) = some (i64 (stepOf k c)) ∧
    indexAV 1 (some 12) (.ip (ctlC k) 13) (.int .i64 c) = some (.ip (ctlC k) (13 + c.toNat * 1)) ∧ takeC none (ctlC k) (13 + c.toNat * 1) = some (i64 (spikeOf k c)) := by
  have hc : c.toNat < 12 := by omega
  refine ⟨by simp only [indexAV]; rw [if_pos ⟨by omega, by omega⟩], ?_, by simp only [indexAV]; rw [if_pos ⟨by omega, by omega⟩], ?_⟩
  · show (ctlC k)[1 + c.toNat * 1]? = _
    unfold ctlC stepOf
    rw [Nat.mul_one, Nat.add_comm, List.getElem?_cons_succ, List.getElem?_map, List.append_assoc, List.getElem?_append_left (by rw [hk.steps]; exact hc), List.getElem?_eq_getElem (by rw [hk.steps]; exact hc)]
    simp [hk.steps, hc]
  · show (ctlC k)[13 + c.toNat * 1]? = _
    unfold ctlC spikeOf
    rw [Nat.mul_one, show 13 + c.toNat = 12 + c.toNat + 1 by omega, List.getElem?_cons_succ, List.getElem?_map, List.append_assoc, List.getElem?_append_right (by rw [hk.steps]; omega), hk.steps, show 12 + c.toNat - 12 = c.toNat by omega,
      List.getElem?_append_left (by rw [hk.spikes]; exact hc), List.getElem?_eq_getElem (by rw [hk.spikes]; exact hc)]
    simp [hk.spikes, hc]

set_option maxHeartbeats 8000000 in
theorem s_CheckOK {l : List Rep} {t : Tok} {k : Ctl} (hk : k.Fit) (hl : l.length ≤ 1000000) (hla : (allR l 0).length ≤ 1000000) (he : examP l k = 0) {F : List (Int × Int)} (hF : F.Pairwise lt2) (hFp : F.Perm ((seenK ((allR l 0).map (·.1))).flatMap (keyFlags l k))) (S : Store) :
    call 17 [.sl (reps l) t, .agg (ctlC k)] S = some (.tup [.sl (flagRows F) (if flagRows F = [] then .full else .none), i64 0], S) := by
  obtain ⟨hgood, hps, hpk⟩ := examP_zero he
  rw [k17]
  unfold F17
  have hexam := s_examine (l := l) (t := t) (k := k) hk hl (fun r hr => by
    obtain ⟨j, hj, rfl⟩ := List.getElem_of_mem hr
    have : allR l 0 = allR (l.take (j + 1)) 0 ++ allR (l.drop (j + 1)) (0 + (l.take (j + 1)).length) := by rw [← allR_append, List.take_append_drop]
    rw [this, allR_take hj] at hla
    simp only [List.length_append, entR, List.length_map] at hla
    omega) S
  rw [he] at hexam
  obtain ⟨Sb, idx, hlines, hlo, hlow, hlen⟩ := s_lines (l := l) (t := t) hla hl hgood.times S
  have hmapB := hlo.map
  have himm : imms (ctlC k) = some (ctlC k) := by
    have := imms_i64s (k.hops :: (k.steps ++ k.spikes ++ k.rest))
    simpa [ctlC] using this
  have hlc : (ctlC k).length = 41 := by simp [ctlC, hk.steps, hk.spikes, hk.rest]
  have hta : takeC (some 41) (ctlC k) 0 = some (.agg (ctlC k)) := by
    simp only [takeC]
    rw [if_pos (by omega), List.drop_zero, List.take_of_length_le (by omega)]
  have hrv : rangeV (.map S.length) Sb = some (.ptr Sb.length 0, Sb ++ [.iter S.length (seenK ((allR l 0).map (·.1))).length []]) := by
    simp only [rangeV, hmapB, List.length_map]
  generalize hKe : seenK ((allR l 0).map (·.1)) = K at hFp hmapB hrv
  have hKn : K.Nodup := hKe ▸ seenK_nodup _
  have hst := stepI_eq (S := Sb ++ [.iter S.length K.length []]) (i := Sb.length) (m := S.length) (n := K.length) (seen := []) (by simp) (by rw [List.getElem?_append_left hlen]; exact hmapB) (by simp)
  have hleft : leftI (.ptr Sb.length 0) (Sb ++ [.iter S.length K.length []]) = K.length := by
    unfold leftI
    rw [hst]
    simp only [Option.getD_some, List.length_map]
    have := left_length (n := K.length) (seen := []) .nil (fun _ h => by cases h)
    simpa only [List.length_nil, Nat.add_zero] using this
  refine bind_of (by simp [himm] <;> rfl) ?_
  refine bind_of (by simp only [List.getD_cons_zero, loadV_ip, hta] <;> rfl) ?_
  refine bind_of (by simp [himm] <;> rfl) ?_
  refine bind_of (by simp [hexam] <;> rfl) ?_
  refine bind_of (by simp <;> rfl) ?_
  refine cond_f (by rfl) ?_
  refine bind_of (by simp <;> rfl) ?_
  refine bind_of (by simp [hlines] <;> rfl) ?_
  refine bind_of hrv ?_
  rw [hleft]
  refine rangeK_rule (it := .ptr Sb.length 0) (fun n vs S1 => ∃ v seen, vs = [v] ∧ seen.Nodup ∧ (∀ q ∈ seen, q < K.length) ∧ n + seen.length = K.length ∧ S1[Sb.length]? = some (.iter S.length K.length seen) ∧ Sb.length + 1 ≤ S1.length ∧
      (∀ j, j < Sb.length → S1[j]? = Sb[j]?) ∧ Grow (Sb.length + 1) 3 S1 v (flagRows (seen.flatMap fun q => keyFlags l k (K.getD q ([], 0))))) ?_ ?_ K.length [.sl [] .full] (Sb ++ [.iter S.length K.length []])
    ⟨_, [], rfl, .nil, fun _ h => (by cases h), rfl, by simp, by simp, fun j hj => (by rw [List.getElem?_append_left hj]), Grow.nil _ _ _⟩
  · -- the end
    rintro vs S1 ⟨v, seen, rfl, s1, s2, s3, s4, s5, s6, s7⟩
    have hmap : S1[S.length]? = some (.map (K.map (entL (allR l 0) idx))) := by rw [s6 _ hlen]; exact hmapB
    have hlf := left_length s1 s2
    refine ⟨?_, ?_⟩
    · rw [stepI_eq s4 hmap (by simp), List.eq_nil_of_length_eq_zero (l := (List.range K.length).filter fun j => !memN j seen) (by omega)]
      rfl
    · have hperm := perm_flatMap (K := K) (g := keyFlags l k) s1 s2 (by omega)
      have hg : Grow (Sb.length + 1) 3 (S1.set Sb.length .dead) v (flagRows (seen.flatMap fun q => keyFlags l k (K.getD q ([], 0)))) := s7.keep fun j hj _ => List.getElem?_set_ne (by omega)
      have hle := flatMap_length_le (l := l) (k := k) hKn s1 s2
      obtain ⟨S2, e1, e2, e3, e4⟩ := sortV_flags (f := 38) hg hF (hFp.trans hperm.symm) (by omega)
      have hcall : call 37 [v, .clo 38 []] (S1.set Sb.length .dead) = some (.tup [], S2) := by
        rw [k37]; exact e1
      have hargs : argVs [v, .clo 38 []] = some [v, .clo 38 []] := by
        rcases hg with ⟨_, rfl⟩ | ⟨_, i, _, rfl, _⟩ <;> simp
      have hfin := e2.fin (m := S.length) (by omega) flagRows_row
      have htake : S2.take S.length = S := by
        apply List.ext_getElem?
        intro j
        rw [List.getElem?_take]
        split
        · rename_i hj
          rw [e4 j (by omega), List.getElem?_set_ne (by omega), s6 j (by omega)]
          exact hlow j hj
        · rw [List.getElem?_eq_none (by omega)]
      show condK (.bool false) _ _ = _
      refine cond_f rfl ?_
      refine bind_of (by exact hargs) ?_
      refine bind_of (by exact hcall) ?_
      have hf2 : fins S.length S2 [v, i64 0] = some [.sl (flagRows F) (if flagRows F = [] then .full else .none), i64 0] := by
        show (fin1 S.length S2 v).bind _ = _
        rw [hfin]
        rfl
      show finish false S.length [v, i64 0] S2 = _
      rw [finish_eq hf2 (by split <;> simp [belows, below]), htake]
      rfl
  · -- a round
    rintro n vs S1 ⟨v, seen, rfl, s1, s2, s3, s4, s5, s6, s7⟩
    have hmap : S1[S.length]? = some (.map (K.map (entL (allR l 0) idx))) := by rw [s6 _ hlen]; exact hmapB
    have hlf := left_length s1 s2
    refine ⟨_, stepI_eq s4 hmap (by simp), ?_, ?_⟩
    · intro h
      have := congrArg List.length h
      simp only [List.length_map, List.length_nil] at this
      omega
    · intro c hc Kn hKn'
      obtain ⟨q, hq, rfl⟩ := List.mem_map.1 hc
      simp only [List.mem_filter, List.mem_range, memN_eq, Bool.not_eq_true', decide_eq_false_iff_not] at hq
      obtain ⟨hq1, hq2⟩ := hq
      have hx := List.getElem_mem hq1
      generalize hxe : K[q] = x at hx
      have hxs : x ∈ seenK ((allR l 0).map (·.1)) := hKe.symm ▸ hx
      obtain ⟨o1, o2⟩ := hlo.obj x hxs
      have hix : idx x < Sb.length := (List.getElem?_eq_some_iff.1 o2).1
      have hlp := lineP_length l x
      have hL1 : 1 ≤ (lineP l x).length := by rw [hlp]; exact List.length_pos_iff.2 (ptsOf_ne hxs)
      have hLl : (lineP l x).length ≤ 1000000 := by have := ptsOf_le (allR l 0) x; omega
      have hLok : ∀ p ∈ lineP l x, p.Ok := fun p hp => (hgood.line hp).1
      obtain ⟨hc1, hc2⟩ := (hgood.line (List.getElem_mem (show 0 < (lineP l x).length by omega))).2
      obtain ⟨g1, g2, g3, g4⟩ := ctl_get hk hc1 hc2
      have hlS : Sb.length < S1.length := by omega
      -- the store behind the step
      generalize hT : S1.set Sb.length (.iter S.length K.length (seen ++ [q])) = T1
      have hTl : T1.length = S1.length := by rw [← hT]; simp
      have hTit : T1[Sb.length]? = some (.iter S.length K.length (seen ++ [q])) := by rw [← hT, List.getElem?_set_self hlS]
      have hTlow : ∀ j, j < Sb.length → T1[j]? = Sb[j]? := fun j hj => by rw [← hT, List.getElem?_set_ne (by omega)]; exact s6 j hj
      have hTg : Grow (Sb.length + 1) 3 T1 v (flagRows (seen.flatMap fun q => keyFlags l k (K.getD q ([], 0)))) := s7.keep fun j hj _ => by rw [← hT]; exact List.getElem?_set_ne (by omega)
      have hent : entryV (.ptr Sb.length 0) T1 = some (.tup [kvS x, .osl (idx x) 0 (lineP l x).length 3]) := by
        simp only [entryV, hTit]
        rw [hTlow _ hlen, hmapB]
        simp only [List.getLast?_concat, List.length_map, if_true, List.getElem?_map, List.getElem?_eq_getElem hq1, hxe, Option.map_some, Option.bind_some, entL, hlp]
      have hroom : room = 4294967296 := rfl
      have hms : msliceV [.bool false] (.int .i64 (lineP l x).length) (.int .i64 (lineP l x).length) T1 = some (.osl T1.length 0 (lineP l x).length 1, T1 ++ [.obj ((List.replicate (lineP l x).length false).map .bool)]) := by
        simp only [msliceV]
        rw [if_pos ⟨by omega, by omega, by omega⟩, Int.toNat_natCast, zero_flat]
        rfl
      have hsr : 0 ≤ stepOf k x.2 ∧ stepOf k x.2 ≤ 10000 := by
        unfold stepOf
        rw [List.getD_eq_getElem?_getD, List.getElem?_eq_getElem (by rw [hk.steps]; omega)]
        exact possP_get hps (List.getElem_mem _)
      have hS0 : (T1 ++ [Ent.obj ((List.replicate (lineP l x).length false).map .bool)])[idx x]? = some (.obj (pts (lineP l x)).flatten) := by
        rw [List.getElem?_append_left (by omega), hTlow _ hix]; exact o2
      have hG0 : Grow (Sb.length + 1) 3 (T1 ++ [Ent.obj ((List.replicate (lineP l x).length false).map .bool)]) v (flagRows (seen.flatMap fun q => keyFlags l k (K.getD q ([], 0)))) := hTg.keep fun j _ hj => List.getElem?_append_left hj
      have hle := flatMap_length_le (l := l) (k := k) hKn s1 s2
      have hrow3 : ∀ y ∈ flagRows (seen.flatMap fun q => keyFlags l k (K.getD q ([], 0))), y.length = 3 := fun y hy => (flagRows_row y hy).1
      have hKq : keyFlags l k x = keyFlags l k (K.getD q ([], 0)) := by rw [List.getD_eq_getElem?_getD, List.getElem?_eq_getElem hq1, hxe]; rfl
      -- what follows behind a round
      have done : ∀ v' S', Grow (Sb.length + 1) 3 S' v' (flagRows (seen.flatMap fun q => keyFlags l k (K.getD q ([], 0))) ++ flagRows (flagsOf (lineP l x) (stepOf k x.2) (spikeOf k x.2) x.2 (lineP l x).length)) → (T1 ++ [Ent.obj ((List.replicate (lineP l x).length false).map .bool)]).length ≤ S'.length →
          (∀ i, i < Sb.length + 1 → S'[i]? = (T1 ++ [Ent.obj ((List.replicate (lineP l x).length false).map .bool)])[i]?) → Kn [v'] S' = some (.tup [.sl (flagRows F) (if flagRows F = [] then .full else .none), i64 0], S) := fun v' S' d1 d2 d3 => by
        refine hKn' [v'] S' ⟨v', seen ++ [q], rfl, ?_, ?_, by simp; omega, ?_, by simp at d2; omega, fun j hj => ?_, ?_⟩
        · rw [List.nodup_append]
          exact ⟨s1, by simp, fun a ha b hb => by simp at hb; subst hb; intro e; subst e; exact hq2 ha⟩
        · intro p hp
          rcases List.mem_append.1 hp with hp | hp
          · exact s2 p hp
          · simp at hp; subst hp; exact hq1
        · rw [d3 _ (by omega), List.getElem?_append_left (by omega)]; exact hTit
        · rw [d3 j (by omega), List.getElem?_append_left (by omega)]; exact hTlow j hj
        · have : flagRows ((seen ++ [q]).flatMap fun q => keyFlags l k (K.getD q ([], 0))) = flagRows (seen.flatMap fun q => keyFlags l k (K.getD q ([], 0))) ++ flagRows (keyFlags l k x) := by
            rw [List.flatMap_append, hKq]; simp [flagRows]
          rw [this]
          exact d1
      have hkv : kvS x = .agg [.str x.1, i64 x.2] := rfl
      rw [hkv] at hent
      subst hT
      show condK (.bool true) _ _ = _
      refine cond_t rfl ?_
      refine bind_of (by exact hent) ?_
      refine bind_of (by rfl) ?_
      refine bind_of (by rfl) ?_
      refine bind_of (by simp <;> rfl) ?_
      refine ite_of (by rfl) ?_
      refine bind_of (by rfl) ?_
      refine bind_of (by exact hms) ?_
      refine bind_of (by rfl) ?_
      refine bind_of (by rfl) ?_
      refine bind_of (by rfl) ?_
      refine bind_of (by exact g1) ?_
      refine bind_of (by exact g2) ?_
      refine bind_of (by rfl) ?_
      by_cases hrate : 0 < stepOf k x.2
      · have hst := s_steps hLok hL1 hLl hsr.1 hsr.2 hS0
        obtain ⟨v', S', e1, e2, e3, e4⟩ := check_line (n0 := S.length) (nB := Sb.length + 1) (nm := x.1) (c := x.2) (s := stepOf k x.2) (p := spikeOf k x.2) (t10 := .sl (bools (markP (lineP l x) (stepOf k x.2) (lineP l x).length)) .none) none hLok hLl (by omega) hS0 hG0 (by simp; omega) hrow3 (by rw [flagRows_length]; omega)
          (fun i h => by cases h) (fun S' _ j hj => by
            have hjm : j < (markP (lineP l x) (stepOf k x.2) (lineP l x).length).length := by simpa using hj
            have hb := at_bools hjm
            have hv : (markP (lineP l x) (stepOf k x.2) (lineP l x).length)[j] = (decide (0 < stepOf k x.2) && stepP (lineP l x) (stepOf k x.2) j) := by simp [markP, hrate, hj]
            rw [hv] at hb
            exact ⟨.ip [.bool (decide (0 < stepOf k x.2) && stepP (lineP l x) (stepOf k x.2) j)] 0, by simp only [indexAV, hb, Option.bind_some]; rfl, rfl⟩)
        refine cond_t (by simp [hrate]) ?_
        refine bind_of (by rfl) ?_
        refine bind_of (by exact hst) ?_
        refine bind_of (by rfl) ?_
        refine bind_of (by rfl) ?_
        refine bind_of (by rfl) ?_
        refine bind_of (by exact g3) ?_
        refine bind_of (by exact g4) ?_
        refine bind_of (by rfl) ?_
        refine bind_of (by exact e1) ?_
        exact done v' S' e2 e3 e4
      · obtain ⟨v', S', e1, e2, e3, e4⟩ := check_line (n0 := S.length) (nB := Sb.length + 1) (nm := x.1) (c := x.2) (s := stepOf k x.2) (p := spikeOf k x.2) (t10 := .osl (S1.set Sb.length (.iter S.length K.length (seen ++ [q]))).length 0 (lineP l x).length 1) (some (S1.set Sb.length (.iter S.length K.length (seen ++ [q]))).length) hLok hLl (by omega) hS0 hG0 (by simp; omega) hrow3 (by rw [flagRows_length]; omega)
          (fun i h => by
            cases h
            refine ⟨by simp, fun i o l' sz hv => ?_⟩
            rcases hTg with ⟨_, h⟩ | ⟨_, i', _, h, h'⟩
            · rw [h] at hv; cases hv
            · rw [h] at hv; cases hv
              have := (List.getElem?_eq_some_iff.1 h').1
              omega) (fun S' hS' j hj => ⟨.ptr (S1.set Sb.length (.iter S.length K.length (seen ++ [q]))).length j, by
            simp only [indexAV]
            rw [if_pos ⟨by omega, by omega, by trivial⟩]
            simp, by
            have h0 := hS' _ rfl
            rw [List.getElem?_concat_length] at h0
            simp only [loadV, h0, takeC, List.getElem?_map]
            rw [List.getElem?_replicate, if_pos hj]
            simp [hrate]⟩)
        refine cond_f (by simp [hrate]) ?_
        refine bind_of (by rfl) ?_
        refine bind_of (by rfl) ?_
        refine bind_of (by rfl) ?_
        refine bind_of (by exact g3) ?_
        refine bind_of (by exact g4) ?_
        refine bind_of (by rfl) ?_
        refine bind_of (by exact e1) ?_
        exact done v' S' e2 e3 e4

end Go.Proofs.YtlilahgndpdkfaaDoor

/-
  What the functions of the elements' reference answer.
-/
namespace Go.Proofs.YtlilahgndpdkfaaDoor
open Go Go.Abs

theorem r_In (t : Int) (S : Store) : call 41 [i64 t] S = some (.bool (inP t), S) := by
  rw [k41]
  unfold F41 inP
  by_cases h : 0 ≤ t <;> simp [h]

theorem r_Describe_no {c : Int} (h : c < 1 ∨ 11 < c) (S : Store) : call 44 [i64 c] S = some (.tup [.agg [.str [], i64 0, i64 0, i64 0], i64 4], S) := by
  rw [k44]
  unfold F44
  have hb : Nat.blt S.length S.length = false := blt_false (Nat.le_refl _)
  by_cases h1 : c < 1
  · simp [h1, finish, hb, buildV, fillC, setC]
  · have h2 : 11 < c := by omega
    simp [h1, h2, finish, hb, buildV, fillC, setC]

def infoRows : List (List AV) := [[.str [80], i64 8000, i64 11000, i64 5], [.str [84], i64 1800, i64 3300, i64 4], [.str [68], i64 1800, i64 3300, i64 4], [.str [69], i64 (-1000), i64 1000, i64 4], [.str [78], i64 (-1000), i64 1000, i64 4], [.str [65], i64 900, i64 1700, i64 4],
  [.str [66], i64 2000, i64 3200, i64 4], [.str [70], i64 2400, i64 3400, i64 4], [.str [71], i64 2000, i64 3000, i64 4], [.str [74], i64 4400, i64 6200, i64 4], [.str [75], i64 2000, i64 2900, i64 4]]

theorem infoRows_at {c : Int} (h1 : 1 ≤ c) (h2 : c ≤ 11) : ∃ d, at? infoRows (c - 1) = some [.str [letter c], i64 (lo c), i64 (hi c), i64 d] := by
  rcases elem_cases h1 h2 with rfl | rfl | rfl | rfl | rfl | rfl | rfl | rfl | rfl | rfl | rfl
  · exact ⟨5, rfl⟩
  all_goals exact ⟨4, rfl⟩

set_option maxHeartbeats 1000000 in
theorem r_Describe {c : Int} (h1 : 1 ≤ c) (h2 : c ≤ 11) (S : Store) : ∃ d, call 44 [i64 c] S = some (.tup [.agg [.str [letter c], i64 (lo c), i64 (hi c), i64 d], i64 0], S) := by
  obtain ⟨d, hd⟩ := infoRows_at h1 h2
  refine ⟨d, ?_⟩
  rw [k44]
  unfold F44
  have hb : Nat.blt S.length S.length = false := blt_false (Nat.le_refl _)
  have n1 : ¬ c < 1 := by omega
  have n2 : ¬ 11 < c := by omega
  have w1 : IntKind.i64.wrap (c - 1) = c - 1 := wrap_in (by unfold In64; omega)
  have hix : indexAV 4 none (.sl infoRows .full) (.int .i64 (c - 1)) = some (.ip [.str [letter c], i64 (lo c), i64 (hi c), i64 d] 0) := by simp [indexAV, hd]
  have hst : ∀ v1 v2 v3 v4 : AV, storeV S.length 4 (.ptr S.length 0) (.agg [.str [letter c], i64 (lo c), i64 (hi c), i64 d]) (S ++ [.obj [v1, v2, v3, v4]]) = some (S ++ [.obj [.str [letter c], i64 (lo c), i64 (hi c), i64 d]]) := fun _ _ _ _ => by
    simp [storeV, hb, cells1, cell1, setC]
  have hld : loadV (some 4) (.ptr S.length 0) (S ++ [.obj [.str [letter c], i64 (lo c), i64 (hi c), i64 d]]) = some (.agg [.str [letter c], i64 (lo c), i64 (hi c), i64 d]) := by simp [loadV]
  simp only []
  iterate 4 refine bind_of (by simp [n1, n2] <;> rfl) ?_
  refine cond_f (by simp [n1, n2] <;> rfl) ?_
  iterate 11 refine bind_of (by simp [buildV, fillC, setC] <;> rfl) ?_
  refine bind_of (a := .sl infoRows .full) (by simp [bsliceV, immRows, infoRows]) ?_
  refine bind_of (by simp [w1] <;> rfl) ?_
  refine bind_of (by exact hix) ?_
  refine bind_of (by simp [loadV_ip] <;> rfl) ?_
  refine bind_of (by exact hst _ _ _ _) ?_
  refine bind_of (by simp [-loadV, hld] <;> rfl) ?_
  simp [finish]

theorem r_in {r : Rd} (h1 : 1 ≤ r.1) (h2 : r.1 ≤ 11) (S : Store) : call 45 [.agg [i64 r.1, i64 r.2]] S = some (.bool (checkP r == 0), S) := by
  rw [k45]
  unfold F45 checkP
  obtain ⟨d, hd⟩ := r_Describe h1 h2 S
  have n1 : ¬ (r.1 < 1 ∨ 11 < r.1) := by omega
  rw [if_neg n1]
  by_cases h3 : lo r.1 ≤ r.2
  · have : ¬ r.2 < lo r.1 := by omega
    by_cases h4 : r.2 ≤ hi r.1
    · have : ¬ hi r.1 < r.2 := by omega
      simp [hd, extractV, h3, h4, *]
    · have : hi r.1 < r.2 := by omega
      simp [hd, extractV, h3, h4, *]
  · have : r.2 < lo r.1 := by omega
    simp [hd, extractV, h3, this]

theorem checkP_four {r : Rd} : (checkP r == 4) = true ↔ r.1 < 1 ∨ 11 < r.1 := by
  unfold checkP
  split
  · rename_i h; simp [h]
  · rename_i h; split <;> simp [h]

set_option maxHeartbeats 1000000 in
theorem r_Validate {l : List Rd} {t : Tok} (hl : l.length ≤ 1000000) (S : Store) : call 25 [.sl (rds l) t] S = some (i64 (validP l), S) := by
  rw [k25]
  unfold F25
  have hat : ∀ (k : Nat) (hk : k < l.length), indexAV 2 none (.sl (rds l) t) (.int .i64 (k : Int)) = some (.ip [i64 (l[k]).1, i64 (l[k]).2] 0) := fun k hk => by simp [indexAV, at_rds hk]
  have hg : ∀ (k : Nat) (hk : k < l.length), l.getD k (0, 0) = l[k] := fun k hk => by rw [List.getD_eq_getElem?_getD, List.getElem?_eq_getElem hk]; rfl
  have key1 := iter_scan (step := fun s => F25_L1 call S.length (.sl (rds l) t) (s.1.getD 0 .u) s.2) (S := S) (fun k => checkP (l.getD k (0, 0)) == 4) (rT := fun _ => (Ex.ret, [i64 4], S)) (rE := (Ex.exit 0, [.u], S)) l.length 0
    (fun k k1 k2 => by
      have hk : k < l.length := by omega
      have hlt : (k : Int) < (l.length : Int) := by omega
      have w1 : IntKind.i64.wrap ((k : Int) + 1) = (k : Int) + 1 := wrap_in (by unfold In64; omega)
      have hi := hat k hk
      rw [hg k hk]
      cases hc : checkP l[k] == 4 with
      | true =>
        have hd := r_Describe_no (checkP_four.1 hc) S
        simp [F25_L1, hlt, hi, hd, extractV]
      | false =>
        have h4 : ¬ (l[k].1 < 1 ∨ 11 < l[k].1) := fun h => by rw [checkP_four.2 h] at hc; cases hc
        obtain ⟨d, hd⟩ := r_Describe (c := l[k].1) (by omega) (by omega) S
        simp [F25_L1, hlt, hi, hd, extractV, w1, nextS_same])
    (by simp [F25_L1])
  simp only [Int.natCast_zero, i64] at key1
  unfold validP
  have any4 : (l.any fun r => checkP r == 4) = true ↔ ∃ k, 0 ≤ k ∧ k < 0 + l.length ∧ (checkP (l.getD k (0, 0)) == 4) = true := by
    rw [List.any_eq_true]
    constructor
    · rintro ⟨r, hr, h⟩
      obtain ⟨k, hk, rfl⟩ := List.getElem_of_mem hr
      exact ⟨k, Nat.zero_le _, by omega, by rw [hg k hk]; exact h⟩
    · rintro ⟨k, _, hk, h⟩
      rw [hg k (by omega)] at h
      exact ⟨l[k]'(by omega), List.getElem_mem _, h⟩
  rcases key1 with ⟨k, k1, k2, k3, k4, k5⟩ | ⟨k1, k2⟩
  · rw [if_pos (any4.2 ⟨k, k1, k2, k3⟩)]
    simp [-List.getD_eq_getElem?_getD, List.getD_cons_zero, k5]
  · have h4 : (l.any fun r => checkP r == 4) = false := by
      rw [Bool.eq_false_iff]; intro h
      obtain ⟨k, a1, a2, a3⟩ := any4.1 h
      rw [k1 k a1 a2] at a3; cases a3
    rw [h4]
    have hok : ∀ (k : Nat) (hk : k < l.length), 1 ≤ l[k].1 ∧ l[k].1 ≤ 11 := fun k hk => by
      have := k1 k (Nat.zero_le _) (by omega)
      rw [hg k hk] at this
      have : ¬ (l[k].1 < 1 ∨ 11 < l[k].1) := fun h => by rw [checkP_four.2 h] at this; cases this
      omega
    have key2 := iter_scan (step := fun s => F25_L2 call S.length (.sl (rds l) t) (s.1.getD 0 .u) s.2) (S := S) (fun k => !(checkP (l.getD k (0, 0)) == 0)) (rT := fun _ => (Ex.ret, [i64 1], S)) (rE := (Ex.exit 2, [.u], S)) l.length 0
      (fun k k1 k2 => by
        have hk : k < l.length := by omega
        have hlt : (k : Int) < (l.length : Int) := by omega
        have w1 : IntKind.i64.wrap ((k : Int) + 1) = (k : Int) + 1 := wrap_in (by unfold In64; omega)
        have hi := hat k hk
        rw [hg k hk]
        have hd := r_in (hok k hk).1 (hok k hk).2 S
        cases hc : checkP l[k] == 0 with
        | true =>
          rw [hc] at hd
          simp [F25_L2, hlt, hi, hd, w1, nextS_same]
        | false =>
          rw [hc] at hd
          simp [F25_L2, hlt, hi, hd])
      (by simp [F25_L2])
    simp only [Int.natCast_zero, i64] at key2
    have any1 : (l.any fun r => checkP r == 1) = true ↔ ∃ k, 0 ≤ k ∧ k < 0 + l.length ∧ (!(checkP (l.getD k (0, 0)) == 0)) = true := by
      rw [List.any_eq_true]
      constructor
      · rintro ⟨r, hr, h⟩
        obtain ⟨k, hk, rfl⟩ := List.getElem_of_mem hr
        simp only [beq_iff_eq] at h
        exact ⟨k, Nat.zero_le _, by omega, by rw [hg k hk, h]; rfl⟩
      · rintro ⟨k, _, hk, h⟩
        rw [hg k (by omega)] at h
        refine ⟨l[k]'(by omega), List.getElem_mem _, ?_⟩
        have h5 := k1 k (Nat.zero_le _) hk
        rw [hg k (by omega)] at h5
        rcases checkP_cases (l[k]'(by omega)) with e | e | e
        · rw [e] at h; cases h
        · rw [e]; rfl
        · rw [e] at h5; cases h5
    rcases key2 with ⟨k, b1, b2, b3, b4, b5⟩ | ⟨b1, b2⟩
    · rw [if_neg (by simp), if_pos (any1.2 ⟨k, b1, b2, b3⟩)]
      simp [-List.getD_eq_getElem?_getD, List.getD_cons_zero, k2, b5]
    · have h1 : (l.any fun r => checkP r == 1) = false := by
        rw [Bool.eq_false_iff]; intro h
        obtain ⟨k, a1, a2, a3⟩ := any1.1 h
        rw [b1 k a1 a2] at a3; cases a3
      rw [h1]
      have key3 := iter_scan (step := fun s => F25_L3 call S.length (.sl (rds l) t) (s.1.getD 0 .u) s.2) (S := S) (fun k => decide ((l.getD k (0, 0)).1 ≤ (l.getD (k - 1) (0, 0)).1)) (rT := fun _ => (Ex.ret, [i64 8], S)) (rE := (Ex.exit 4, [.u], S)) (l.length - 1) 1
        (fun k k1 k2 => by
          have hk : k < l.length := by omega
          have hk' : k - 1 < l.length := by omega
          have w1 : IntKind.i64.wrap ((k : Int) + 1) = (k : Int) + 1 := wrap_in (by unfold In64; omega)
          have w2 : IntKind.i64.wrap ((k : Int) - 1) = ((k - 1 : Nat) : Int) := by rw [wrap_in (by unfold In64; omega)]; omega
          have hlt : (k : Int) < (l.length : Int) := by omega
          have hi := hat k hk
          have hi' := hat (k - 1) hk'
          rw [hg k hk, hg _ hk']
          by_cases hc : l[k].1 ≤ l[k - 1].1
          · simp [F25_L3, hlt, hi, hi', w1, w2, hc]
          · simp [F25_L3, hlt, hi, hi', w1, w2, hc, nextS_same])
        (by
          have hlt : ¬ (1 + ((l.length - 1 : Nat) : Int) < (l.length : Int)) := by omega
          simp [F25_L3, hlt])
      simp only [Int.natCast_one, i64] at key3
      have hincr : (∀ k, 1 ≤ k → k < 1 + (l.length - 1) → decide ((l.getD k (0, 0)).1 ≤ (l.getD (k - 1) (0, 0)).1) = false) ↔ incrR l = true := by
        rw [incrR_iff]
        constructor
        · intro h i hi
          have := h (i + 1) (by omega) (by omega)
          simp [hi, show i < l.length by omega] at this
          omega
        · intro h k k1 k2
          have := h (k - 1) (by omega)
          simp only [show k - 1 + 1 = k by omega] at this
          simp [show k < l.length by omega, show k - 1 < l.length by omega]
          omega
      rcases key3 with ⟨k, c1, c2, c3, c4, c5⟩ | ⟨c1, c2⟩
      · have hn : incrR l = false := by
          rw [Bool.eq_false_iff]; intro h
          have := hincr.2 h k c1 c2
          rw [this] at c3; cases c3
        rw [hn]
        simp [-List.getD_eq_getElem?_getD, List.getD_cons_zero, k2, b2, c5]
      · have hn := hincr.1 c1
        rw [hn]
        simp [-List.getD_eq_getElem?_getD, List.getD_cons_zero, k2, b2, c2]

theorem r_Find {l : List Rd} {t : Tok} {c : Int} (hl : l.length ≤ 1000000) (S : Store) : call 24 [.sl (rds l) t, i64 c] S = some (match findP l c with | some v => .tup [i64 v, .bool true] | none => .tup [i64 0, .bool false], S) := by
  rw [k24]
  unfold F24
  have hat : ∀ (k : Nat) (hk : k < l.length), indexAV 2 none (.sl (rds l) t) (.int .i64 (k : Int)) = some (.ip [i64 (l[k]).1, i64 (l[k]).2] 0) := fun k hk => by simp [indexAV, at_rds hk]
  have hg : ∀ (k : Nat) (hk : k < l.length), l.getD k (0, 0) = l[k] := fun k hk => by rw [List.getD_eq_getElem?_getD, List.getElem?_eq_getElem hk]; rfl
  have key := iter_scan (step := fun s => F24_L1 call S.length (.sl (rds l) t) (i64 c) (s.1.getD 0 .u) s.2) (S := S) (fun k => (l.getD k (0, 0)).1 == c) (rT := fun k => (Ex.ret, [i64 (l.getD k (0, 0)).2, .bool true], S)) (rE := (Ex.exit 0, [.u, .u], S)) l.length 0
    (fun k k1 k2 => by
      have hk : k < l.length := by omega
      have hlt : (k : Int) < (l.length : Int) := by omega
      have w1 : IntKind.i64.wrap ((k : Int) + 1) = (k : Int) + 1 := wrap_in (by unfold In64; omega)
      have hi := hat k hk
      rw [hg k hk]
      by_cases hc : l[k].1 = c
      · simp [F24_L1, hlt, hi, hc]
      · simp [F24_L1, hlt, hi, hc, w1, nextS_same])
    (by simp [F24_L1])
  simp only [Int.natCast_zero, i64] at key
  rcases key with ⟨k, k1, k2, k3, k4, k5⟩ | ⟨k1, k2⟩
  · have hk : k < l.length := by omega
    have hf : findP l c = some (l[k]).2 := by
      unfold findP
      have : l.find? (fun r => r.1 == c) = some l[k] := by
        rw [List.find?_eq_some_iff_getElem]
        rw [hg k hk] at k3
        refine ⟨k3, k, hk, rfl, fun j hj => ?_⟩
        have := k4 j (Nat.zero_le _) hj
        rw [hg j (by omega)] at this
        simpa using this
      rw [this]; rfl
    rw [hf]
    rw [hg k hk] at k5
    simp [-List.getD_eq_getElem?_getD, List.getD_cons_zero, List.getD_cons_succ, k5]
  · have hf : findP l c = none := by
      unfold findP
      rw [List.find?_eq_none.2 fun r hr => ?_]
      · rfl
      · obtain ⟨k, hk, rfl⟩ := List.getElem_of_mem hr
        have := k1 k (Nat.zero_le _) (by omega)
        rw [hg k hk] at this
        simpa using this
    rw [hf]
    simp [-List.getD_eq_getElem?_getD, List.getD_cons_zero, List.getD_cons_succ, k2]

end Go.Proofs.YtlilahgndpdkfaaDoor

/-
  What the functions of the timeline's reference answer: the rejected readings of a line.
-/
namespace Go.Proofs.YtlilahgndpdkfaaDoor
open Go Go.Abs

theorem r_slow {a b : Pt} {s : Int} (ha : a.Ok) (hb : b.Ok) (hab : a.time ≤ b.time) (h0 : 0 ≤ s) (h1 : s ≤ 10000) (S : Store) : call 58 [.agg (ptR a), .agg (ptR b), i64 s] S = some (.bool (slowP a b s), S) := by
  rw [k58]
  unfold F58
  obtain ⟨a1, a2, a3, a4⟩ := ha
  obtain ⟨b1, b2, b3, b4⟩ := hb
  have w1 : IntKind.i64.wrap (a.time - b.time) = a.time - b.time := wrap_in (by unfold In64; omega)
  have w2 : IntKind.i64.wrap (b.time - a.time) = b.time - a.time := wrap_in (by unfold In64; omega)
  have w3 : IntKind.i64.wrap (b.time - a.time + 59) = b.time - a.time + 60 - 1 := by rw [wrap_in (by unfold In64; omega)]; omega
  have hm : max2 (a.time - b.time) (b.time - a.time) = b.time - a.time := by unfold max2; split <;> omega
  obtain ⟨hq2, hq1⟩ := tdiv_bound (x := b.time - a.time + 60 - 1) (n := 60000000) (k := 60) (by omega) (by omega) (by omega)
  have w4 : IntKind.i64.wrap ((b.time - a.time + 60 - 1).tdiv 60) = (b.time - a.time + 60 - 1).tdiv 60 := wrap_in (by unfold In64; omega)
  have hm1 : s * ((b.time - a.time + 60 - 1).tdiv 60) ≤ 10000 * 60000000 := by
    have := Int.mul_le_mul_of_nonneg_left hq1 h0
    have := Int.mul_le_mul_of_nonneg_right h1 (show (0 : Int) ≤ 60000000 by omega)
    omega
  have hm2 : -(10000 * 60000000) ≤ s * ((b.time - a.time + 60 - 1).tdiv 60) := by
    have := Int.mul_le_mul_of_nonneg_left hq2 h0
    have := Int.mul_le_mul_of_nonneg_right h1 (show (0 : Int) ≤ 60000000 by omega)
    omega
  have w5 : IntKind.i64.wrap (s * ((b.time - a.time + 60 - 1).tdiv 60)) = s * ((b.time - a.time + 60 - 1).tdiv 60) := wrap_in (by unfold In64; omega)
  have w6 : IntKind.i64.wrap (a.val - b.val) = a.val - b.val := wrap_in (by unfold In64; omega)
  have w7 : IntKind.i64.wrap (b.val - a.val) = b.val - a.val := wrap_in (by unfold In64; omega)
  simp only [ptR]
  repeat (first
    | rfl
    | refine cond_t (by rfl) ?_
    | refine cond_f (by rfl) ?_
    | refine ite_of (by first | rfl | assumption) ?_
    | refine bind_of (by simp [-loadV, -storeV, -Int.natCast_add, loadV_ip, w1, w2, w3, hm, w4, w5, w6, w7] <;> rfl) ?_)
  simp [slowP, sizeP] <;> rfl

def mark1 (l : List Pt) (s : Int) (k : Nat) : List Bool := (List.range l.length).map fun j => decide (j < k) && (decide (0 < s) && stepP l s j)
def mark2 (l : List Pt) (s p : Int) (k : Nat) : List Bool := (List.range l.length).map fun j => (decide (0 < s) && stepP l s j) || (decide (j < k) && spkP l p j)

@[simp] theorem mark1_length {l : List Pt} {s : Int} {k : Nat} : (mark1 l s k).length = l.length := by simp [mark1]
@[simp] theorem mark2_length {l : List Pt} {s p : Int} {k : Nat} : (mark2 l s p k).length = l.length := by simp [mark2]

theorem mark1_pos {l : List Pt} {s : Int} (h : 0 < s) (k : Nat) : mark1 l s k = markP l s k := by
  unfold mark1 markP
  simp [h]

theorem mark1_neg {l : List Pt} {s : Int} (h : ¬ 0 < s) (k : Nat) : mark1 l s k = List.replicate l.length false := by
  apply List.ext_getElem (by simp)
  intro j h1 h2
  simp [mark1, h]

theorem mark2_one {l : List Pt} {s p : Int} : mark2 l s p 1 = mark1 l s l.length := by
  apply List.ext_getElem (by simp)
  intro j h1 h2
  have hj : j < l.length := by simpa using h1
  simp only [mark1, mark2, List.getElem_map, List.getElem_range]
  by_cases h : j < 1
  · obtain rfl : j = 0 := by omega
    simp [spkP, hj]
  · simp [h, hj]

theorem mark2_end {l : List Pt} {s p : Int} {k : Nat} (h : ¬ 0 < p ∨ l.length ≤ k + 1) : mark2 l s p k = (List.range l.length).map (rejP l s p) := by
  apply List.ext_getElem (by simp)
  intro j h1 h2
  have hj : j < l.length := by simpa using h1
  simp only [mark2, List.getElem_map, List.getElem_range, rejP]
  congr 1
  rcases h with h | h
  · simp [spkP, h]
  · by_cases hjk : j < k
    · simp [hjk]
    · have : ¬ j + 1 < l.length := by omega
      simp [spkP, this]

theorem mark2_step {l : List Pt} {s p : Int} {k : Nat} (hk : k < l.length) : (if spkP l p k = true then (mark2 l s p k).set k true else mark2 l s p k) = mark2 l s p (k + 1) := by
  apply List.ext_getElem (by split <;> simp)
  intro j h1 h2
  have hj : j < l.length := by simpa using h2
  have hval : (mark2 l s p (k + 1))[j] = ((decide (0 < s) && stepP l s j) || (decide (j < k + 1) && spkP l p j)) := by simp [mark2]
  rw [hval]
  by_cases hjk : j = k
  · subst hjk
    by_cases hs : spkP l p j = true
    · simp [hs]
    · simp [hs, mark2]
  · have : (j < k + 1) = (j < k) := by simp; omega
    have h0 : (mark2 l s p k)[j]'(by simpa using hj) = ((decide (0 < s) && stepP l s j) || (decide (j < k) && spkP l p j)) := by simp [mark2]
    by_cases hs : spkP l p k = true
    · simp only [hs, if_true]
      rw [List.getElem_set_ne (Ne.symm hjk), h0]
      simp [this]
    · simp only [hs]
      simp only [Bool.false_eq_true, if_false]
      rw [h0]
      simp [this]

set_option maxHeartbeats 4000000 in
/-- The steps. -/
theorem r_loop1 {l : List Pt} {t : Tok} {s p : Int} {S : Store} (hl : ∀ q ∈ l, q.Ok) (hs : l.Pairwise fun a b => a.time < b.time) (h1 : 1 ≤ l.length) (h2 : l.length ≤ 1000000) (h4 : s ≤ 10000) :
    iter (fun st => F43_L1 call S.length (.sl (pts l) t) (i64 s) (i64 p) (.osl S.length 0 l.length 1) (st.1.getD 0 .u) (st.1.getD 1 .u) st.2) ([i64 0, i64 1], S ++ [.obj ((List.replicate l.length false).map .bool)]) = some (.exit 0, [], S ++ [.obj ((mark1 l s l.length).map .bool)]) := by
  by_cases h3 : 0 < s
  · have hi : ∀ (q : Nat) (hq : q < l.length), indexAV 3 none (.sl (pts l) t) (.int .i64 (q : Int)) = some (.ip (ptR l[q]) 0) := fun q hq => by simp [indexAV, at_pts hq, ptR]
    have hld : ∀ (q : Nat) (hq : q < l.length), takeC (some 3) (ptR l[q]) 0 = some (.agg (ptR l[q])) := fun q hq => by simp [ptR]
    have hok : ∀ (k : Nat) (h : k < l.length), (l[k]).Ok := fun k h => hl _ (List.getElem_mem h)
    have hle : ∀ (i j : Nat) (hi : i < l.length) (hj : j < l.length), i ≤ j → (l[i]).time ≤ (l[j]).time := fun i j hi hj hij => by
      by_cases e : i = j
      · subst e; omega
      · have := (List.pairwise_iff_getElem.1 hs) i j hi hj (by omega); omega
    have hb : Nat.blt S.length S.length = false := blt_false (Nat.le_refl _)
    have key := iter_run (step := fun st => F43_L1 call S.length (.sl (pts l) t) (i64 s) (i64 p) (.osl S.length 0 l.length 1) (st.1.getD 0 .u) (st.1.getD 1 .u) st.2)
      (fun k => ([i64 (goodP l s (k - 1) : Nat), i64 (k : Nat)], S ++ [.obj ((markP l s k).map .bool)])) (r := (Ex.exit 0, [], S ++ [.obj ((markP l s l.length).map .bool)])) (l.length - 1) 1
      (fun k k1 k2 => by
        have hk : k < l.length := by omega
        have hg := goodP_le l s (k - 1)
        have hgl : goodP l s (k - 1) < l.length := by omega
        have hlt : (k : Int) < (l.length : Int) := by omega
        have w1 : IntKind.i64.wrap ((k : Int) + 1) = ((k + 1 : Nat) : Int) := wrap_in (by unfold In64; omega)
        have s1 := r_slow (s := s) (hok _ hgl) (hok _ hk) (hle _ _ hgl hk (by omega)) (by omega) h4 (S ++ [.obj ((markP l s k).map .bool)])
        have hst := stepP_ok (l := l) (s := s) k1
        have hgs := goodP_succ (l := l) (s := s) k1
        have jy : okP l s (goodP l s (k - 1)) k = true → F43_J1 call S.length (S ++ [Ent.obj ((markP l s k).map .bool)]).length (i64 (k : Int)) (i64 (k : Int)) (S ++ [.obj ((markP l s k).map .bool)]) = some (.inl ([i64 (goodP l s (k + 1 - 1) : Nat), i64 ((k + 1 : Nat) : Int)], S ++ [.obj ((markP l s (k + 1)).map .bool)])) := fun h => by
          unfold F43_J1
          simp only [binV, isShift, cond_false, if_true, binI, Option.bind_some, w1, nextS_same]
          rw [markP_good (by rw [hst, h]; rfl), Nat.add_sub_cancel, hgs, if_pos h]
        have jn : okP l s (goodP l s (k - 1)) k = false → F43_J1 call S.length (S ++ [Ent.obj ((markP l s k).map .bool)]).length (i64 (goodP l s (k - 1) : Nat)) (i64 (k : Int)) (S ++ [.obj ((markP l s (k + 1)).map .bool)]) = some (.inl ([i64 (goodP l s (k + 1 - 1) : Nat), i64 ((k + 1 : Nat) : Int)], S ++ [.obj ((markP l s (k + 1)).map .bool)])) := fun h => by
          unfold F43_J1
          simp only [binV, isShift, cond_false, if_true, binI, Option.bind_some, w1]
          rw [nextS_eq (by simp), Nat.add_sub_cancel, hgs, if_neg (by simp [h])]
          rfl
        have hix : indexAV 1 none (.osl S.length 0 l.length 1) (.int .i64 (k : Int)) = some (.ptr S.length k) := by
          simp only [indexAV]
          rw [if_pos ⟨by omega, by omega, by trivial⟩]
          simp
        have hset : okP l s (goodP l s (k - 1)) k = false → storeV S.length 1 (.ptr S.length k) (.bool true) (S ++ [.obj ((markP l s k).map .bool)]) = some (S ++ [.obj ((markP l s (k + 1)).map .bool)]) := fun h => by
          simp only [storeV, List.getElem?_concat_length, hb, cond_false, cellsOf, cells1, cell1, Option.bind_some, List.length_cons, List.length_nil, List.length_map, markP_length]
          rw [if_pos ⟨by trivial, by omega⟩]
          simp only [setC, map_bool_set, markP_bad hk (show stepP l s k = true by rw [hst, h]; rfl)]
          rw [List.set_append_right _ _ (Nat.le_refl _)]
          simp
        have e : okP l s (goodP l s (k - 1)) k = (slowP l[goodP l s (k - 1)] l[k] s || (decide (k + 1 < l.length) && slowP l[k] (l.getD (k + 1) ⟨0, 0, 0⟩) s)) := by unfold okP; rw [getD_pt hgl, getD_pt hk]
        have him : ∀ p : Pt, imms (ptR p) = some (ptR p) := fun p => by simp [ptR]
        cases c1 : slowP l[goodP l s (k - 1)] l[k] s with
        | true =>
          rw [c1] at s1 e
          refine Eq.trans ?_ (jy (by rw [e]; rfl))
          unfold F43_L1
          simp only [List.getD_cons_zero, List.getD_cons_succ]
          repeat (first
            | rfl
            | refine cond_t (by rfl) ?_
            | refine cond_f (by rfl) ?_
            | refine ite_of (by first | rfl | assumption) ?_
            | refine bind_of (by simp [-loadV, -storeV, -Int.natCast_add, loadV_ip, -take_some, h3, hlt, hi k hk, hi _ hgl, hld k hk, hld _ hgl, him, s1] <;> rfl) ?_)
        | false =>
          rw [c1] at s1 e
          by_cases hk1 : k + 1 < l.length
          · have hlt1 : ((k + 1 : Nat) : Int) < (l.length : Int) := by omega
            have s2 := r_slow (s := s) (hok _ hk) (hok _ hk1) (hle _ _ hk hk1 (by omega)) (by omega) h4 (S ++ [.obj ((markP l s k).map .bool)])
            rw [getD_pt hk1] at e
            cases c2 : slowP l[k] l[k + 1] s with
            | true =>
              rw [c2] at s2 e
              refine Eq.trans ?_ (jy (by rw [e]; simp [hk1]))
              unfold F43_L1
              simp only [List.getD_cons_zero, List.getD_cons_succ]
              repeat (first
                | rfl
                | refine cond_t (by rfl) ?_
                | refine cond_f (by rfl) ?_
                | refine ite_of (by first | rfl | assumption) ?_
                | refine bind_of (by simp [-loadV, -storeV, -Int.natCast_add, loadV_ip, -take_some, h3, hlt, hi k hk, hi _ hgl, hi _ hk1, hld k hk, hld _ hgl, hld _ hk1, him, hlt1, w1, s1, s2] <;> rfl) ?_)
            | false =>
              rw [c2] at s2 e
              refine Eq.trans ?_ (jn (by rw [e]; simp))
              have hs := hset (by rw [e]; simp)
              unfold F43_L1
              simp only [List.getD_cons_zero, List.getD_cons_succ]
              repeat (first
                | rfl
                | refine cond_t (by rfl) ?_
                | refine cond_f (by rfl) ?_
                | refine ite_of (by first | rfl | assumption) ?_
                | refine bind_of (by simp [-loadV, -storeV, -Int.natCast_add, loadV_ip, -take_some, h3, hlt, hi k hk, hi _ hgl, hi _ hk1, hld k hk, hld _ hgl, hld _ hk1, him, hlt1, w1, s1, s2, hix, hs] <;> rfl) ?_)
          · have hlt1 : ¬ ((k + 1 : Nat) : Int) < (l.length : Int) := by omega
            refine Eq.trans ?_ (jn (by rw [e]; simp [hk1]))
            have hs := hset (by rw [e]; simp [hk1])
            unfold F43_L1
            simp only [List.getD_cons_zero, List.getD_cons_succ]
            repeat (first
              | rfl
              | refine cond_t (by rfl) ?_
              | refine cond_f (by rfl) ?_
              | refine ite_of (by first | rfl | assumption) ?_
              | refine bind_of (by simp [-loadV, -storeV, -Int.natCast_add, loadV_ip, -take_some, h3, hlt, hi k hk, hi _ hgl, hld k hk, hld _ hgl, him, hlt1, w1, s1, hix, hs] <;> rfl) ?_))
      (by
        have e : 1 + (l.length - 1) = l.length := by omega
        rw [e]
        simp [F43_L1])
    rw [mark1_pos h3, markP_one l s]
    exact key
  · rw [mark1_neg h3, iter_eq]
    by_cases hl1 : (1 : Int) < (l.length : Int)
    · simp [F43_L1, h3, hl1]
    · simp [F43_L1, hl1]

/-- What the spike rule of the reference says. -/
theorem spikeR {a b c : Pt} {p : Int} : spikeP a b c p = (((decide (a.val + p < b.val) && decide (c.val + p < b.val)) || (decide (b.val < a.val - p) && decide (b.val < c.val - p))) && decide (sizeP a c ≤ p)) := by
  unfold spikeP
  have e1 : decide (b.val - a.val > p) = decide (a.val + p < b.val) := by simp only [decide_eq_decide]; omega
  have e2 : decide (b.val - c.val > p) = decide (c.val + p < b.val) := by simp only [decide_eq_decide]; omega
  have e3 : decide (a.val - b.val > p) = decide (b.val < a.val - p) := by simp only [decide_eq_decide]; omega
  have e4 : decide (c.val - b.val > p) = decide (b.val < c.val - p) := by simp only [decide_eq_decide]; omega
  rw [e1, e2, e3, e4]

set_option maxHeartbeats 4000000 in
theorem r_round2 {l : List Pt} {t : Tok} {p : Int} {S S2 : Store} {n0 k j : Nat} (hl : ∀ q ∈ l, q.Ok) (h2 : l.length ≤ 1000000) (hp : 0 < p) (hp1 : p ≤ 10000) (k1 : 1 ≤ k) (hk1 : k + 1 < l.length)
    (hset : storeV n0 1 (.ptr j k) (.bool true) S = some S2) :
    F43_L2 call n0 (.sl (pts l) t) (i64 p) (.osl j 0 l.length 1) (i64 (k : Nat)) S = if spikeP (l[k - 1]'(by omega)) (l[k]'(by omega)) l[k + 1] p = true then F43_J2 call n0 S.length (i64 (k : Nat)) S2 else F43_J2 call n0 S.length (i64 (k : Nat)) S := by
  have hk : k < l.length := by omega
  have hkm : k - 1 < l.length := by omega
  have hi : ∀ (q : Nat) (hq : q < l.length), indexAV 3 none (.sl (pts l) t) (.int .i64 (q : Int)) = some (.ip [i64 (l[q]).rep, i64 (l[q]).time, i64 (l[q]).val] 0) := fun q hq => by simp [indexAV, at_pts hq, ptR]
  have hlt : ((k + 1 : Nat) : Int) < (l.length : Int) := by omega
  have w1 : IntKind.i64.wrap ((k : Int) + 1) = ((k + 1 : Nat) : Int) := wrap_in (by unfold In64; omega)
  have w0 : IntKind.i64.wrap ((k : Int) - 1) = ((k - 1 : Nat) : Int) := by rw [wrap_in (by unfold In64; omega)]; omega
  obtain ⟨_, _, a1, a2⟩ := hl _ (List.getElem_mem hkm)
  obtain ⟨_, _, b1, b2⟩ := hl _ (List.getElem_mem hk)
  obtain ⟨_, _, c1, c2⟩ := hl _ (List.getElem_mem hk1)
  rw [spikeR]
  generalize ha : l[k - 1] = a at *
  generalize hb : l[k] = b at *
  generalize hc : l[k + 1] = c at *
  have i1 := hi k hk
  have i0 := hi _ hkm
  have i2 := hi _ hk1
  rw [ha] at i0
  rw [hb] at i1
  rw [hc] at i2
  have hix : indexAV 1 none (.osl j 0 l.length 1) (.int .i64 (k : Int)) = some (.ptr j k) := by
    simp only [indexAV]
    rw [if_pos ⟨by omega, by omega, by trivial⟩]
    simp
  have w2 : IntKind.i64.wrap (a.val + p) = a.val + p := wrap_in (by unfold In64; omega)
  have w3 : IntKind.i64.wrap (c.val + p) = c.val + p := wrap_in (by unfold In64; omega)
  have w4 : IntKind.i64.wrap (a.val - p) = a.val - p := wrap_in (by unfold In64; omega)
  have w5 : IntKind.i64.wrap (c.val - p) = c.val - p := wrap_in (by unfold In64; omega)
  have w6 : IntKind.i64.wrap (a.val - c.val) = a.val - c.val := wrap_in (by unfold In64; omega)
  have w7 : IntKind.i64.wrap (c.val - a.val) = c.val - a.val := wrap_in (by unfold In64; omega)
  have hz : sizeP a c = max2 (a.val - c.val) (c.val - a.val) := rfl
  rw [hz]
  by_cases u1 : a.val + p < b.val
  · have d1 : ¬ b.val < a.val - p := by omega
    by_cases u2 : c.val + p < b.val
    · by_cases z : max2 (a.val - c.val) (c.val - a.val) ≤ p
      · skip
        simp only [u1, u2, z, decide_true, decide_false, Bool.and_true, Bool.true_and, Bool.and_false, Bool.false_and, Bool.or_true, Bool.true_or, Bool.or_false, Bool.false_or, if_true, if_false, Bool.false_eq_true]
        unfold F43_L2
        generalize F43_J2 = J
        simp only []
        repeat (first
          | rfl
          | refine cond_t (by rfl) ?_
          | refine cond_f (by rfl) ?_
          | refine ite_of (by first | rfl | assumption) ?_
          | refine bind_of (by simp [-loadV, -storeV, -Int.natCast_add, loadV_ip, hlt, hp, w0, w1, w2, w3, w4, w5, w6, w7, i0, i1, i2, u1, u2, z, hix, hset] <;> rfl) ?_)
      · skip
        simp only [u1, u2, z, decide_true, decide_false, Bool.and_true, Bool.true_and, Bool.and_false, Bool.false_and, Bool.or_true, Bool.true_or, Bool.or_false, Bool.false_or, if_true, if_false, Bool.false_eq_true]
        unfold F43_L2
        generalize F43_J2 = J
        simp only []
        repeat (first
          | rfl
          | refine cond_t (by rfl) ?_
          | refine cond_f (by rfl) ?_
          | refine ite_of (by first | rfl | assumption) ?_
          | refine bind_of (by simp [-loadV, -storeV, -Int.natCast_add, loadV_ip, hlt, hp, w0, w1, w2, w3, w4, w5, w6, w7, i0, i1, i2, u1, u2, z] <;> rfl) ?_)
    · skip
      simp only [u1, u2, d1, decide_true, decide_false, Bool.and_true, Bool.true_and, Bool.and_false, Bool.false_and, Bool.or_true, Bool.true_or, Bool.or_false, Bool.false_or, if_true, if_false, Bool.false_eq_true]
      unfold F43_L2
      generalize F43_J2 = J
      simp only []
      repeat (first
        | rfl
        | refine cond_t (by rfl) ?_
        | refine cond_f (by rfl) ?_
        | refine ite_of (by first | rfl | assumption) ?_
        | refine bind_of (by simp [-loadV, -storeV, -Int.natCast_add, loadV_ip, hlt, hp, w0, w1, w2, w3, w4, w5, w6, w7, i0, i1, i2, u1, u2, d1] <;> rfl) ?_)
  · by_cases d1 : b.val < a.val - p
    · by_cases d2 : b.val < c.val - p
      · by_cases z : max2 (a.val - c.val) (c.val - a.val) ≤ p
        · skip
          simp only [u1, d1, d2, z, decide_true, decide_false, Bool.and_true, Bool.true_and, Bool.and_false, Bool.false_and, Bool.or_true, Bool.true_or, Bool.or_false, Bool.false_or, if_true, if_false, Bool.false_eq_true]
          unfold F43_L2
          generalize F43_J2 = J
          simp only []
          repeat (first
            | rfl
            | refine cond_t (by rfl) ?_
            | refine cond_f (by rfl) ?_
            | refine ite_of (by first | rfl | assumption) ?_
            | refine bind_of (by simp [-loadV, -storeV, -Int.natCast_add, loadV_ip, hlt, hp, w0, w1, w2, w3, w4, w5, w6, w7, i0, i1, i2, u1, d1, d2, z, hix, hset] <;> rfl) ?_)
        · skip
          simp only [u1, d1, d2, z, decide_true, decide_false, Bool.and_true, Bool.true_and, Bool.and_false, Bool.false_and, Bool.or_true, Bool.true_or, Bool.or_false, Bool.false_or, if_true, if_false, Bool.false_eq_true]
          unfold F43_L2
          generalize F43_J2 = J
          simp only []
          repeat (first
            | rfl
            | refine cond_t (by rfl) ?_
            | refine cond_f (by rfl) ?_
            | refine ite_of (by first | rfl | assumption) ?_
            | refine bind_of (by simp [-loadV, -storeV, -Int.natCast_add, loadV_ip, hlt, hp, w0, w1, w2, w3, w4, w5, w6, w7, i0, i1, i2, u1, d1, d2, z] <;> rfl) ?_)
      · skip
        simp only [u1, d1, d2, decide_true, decide_false, Bool.and_true, Bool.true_and, Bool.and_false, Bool.false_and, Bool.or_true, Bool.true_or, Bool.or_false, Bool.false_or, if_true, if_false, Bool.false_eq_true]
        unfold F43_L2
        generalize F43_J2 = J
        simp only []
        repeat (first
          | rfl
          | refine cond_t (by rfl) ?_
          | refine cond_f (by rfl) ?_
          | refine ite_of (by first | rfl | assumption) ?_
          | refine bind_of (by simp [-loadV, -storeV, -Int.natCast_add, loadV_ip, hlt, hp, w0, w1, w2, w3, w4, w5, w6, w7, i0, i1, i2, u1, d1, d2] <;> rfl) ?_)
    · skip
      simp only [u1, d1, decide_true, decide_false, Bool.and_true, Bool.true_and, Bool.and_false, Bool.false_and, Bool.or_true, Bool.true_or, Bool.or_false, Bool.false_or, if_true, if_false, Bool.false_eq_true]
      unfold F43_L2
      generalize F43_J2 = J
      simp only []
      repeat (first
        | rfl
        | refine cond_t (by rfl) ?_
        | refine cond_f (by rfl) ?_
        | refine ite_of (by first | rfl | assumption) ?_
        | refine bind_of (by simp [-loadV, -storeV, -Int.natCast_add, loadV_ip, hlt, hp, w0, w1, w2, w3, w4, w5, w6, w7, i0, i1, i2, u1, d1] <;> rfl) ?_)

end Go.Proofs.YtlilahgndpdkfaaDoor

/-
  What the timeline's reference says of a line.
-/
namespace Go.Proofs.YtlilahgndpdkfaaDoor
open Go Go.Abs

set_option maxHeartbeats 1000000 in
theorem r_loop2 {l : List Pt} {t : Tok} {s p : Int} {S : Store} (hl : ∀ q ∈ l, q.Ok) (h1 : 1 ≤ l.length) (h2 : l.length ≤ 1000000) (hp1 : p ≤ 10000) :
    iter (fun st => F43_L2 call S.length (.sl (pts l) t) (i64 p) (.osl S.length 0 l.length 1) (st.1.getD 0 .u) st.2) ([i64 1], S ++ [.obj ((mark2 l s p 1).map .bool)]) = some (.exit 2, [], S ++ [.obj (((List.range l.length).map (rejP l s p)).map .bool)]) := by
  by_cases hp : 0 < p
  · have hb : Nat.blt S.length S.length = false := blt_false (Nat.le_refl _)
    by_cases hl2 : 2 ≤ l.length
    · have key := iter_run (step := fun st => F43_L2 call S.length (.sl (pts l) t) (i64 p) (.osl S.length 0 l.length 1) (st.1.getD 0 .u) st.2)
        (fun k => ([i64 (k : Nat)], S ++ [.obj ((mark2 l s p k).map .bool)])) (r := (Ex.exit 2, [], S ++ [.obj ((mark2 l s p (l.length - 1)).map .bool)])) (l.length - 2) 1
        (fun k k1 k2 => by
          have hk1 : k + 1 < l.length := by omega
          have hk : k < l.length := by omega
          have hkm : k - 1 < l.length := by omega
          have w1 : IntKind.i64.wrap ((k : Int) + 1) = ((k + 1 : Nat) : Int) := wrap_in (by unfold In64; omega)
          have hset : storeV S.length 1 (.ptr S.length k) (.bool true) (S ++ [.obj ((mark2 l s p k).map .bool)]) = some (S ++ [.obj (((mark2 l s p k).set k true).map .bool)]) := by
            simp only [storeV, List.getElem?_concat_length, hb, cond_false, cellsOf, cells1, cell1, Option.bind_some, List.length_cons, List.length_nil, List.length_map, mark2_length]
            rw [if_pos ⟨by trivial, by omega⟩]
            simp only [setC, map_bool_set]
            rw [List.set_append_right _ _ (Nat.le_refl _)]
            simp
          have hr := r_round2 (t := t) (n0 := S.length) (j := S.length) hl h2 hp hp1 k1 hk1 hset
          have hspk : spkP l p k = spikeP l[k - 1] l[k] l[k + 1] p := by
            unfold spkP
            rw [getD_pt hkm, getD_pt hk, getD_pt hk1]
            simp [hp, show 0 < k by omega, hk1]
          have hstep := mark2_step (s := s) (p := p) hk
          rw [hspk] at hstep
          simp only [List.getD_cons_zero]
          rw [hr]
          by_cases hs : spikeP l[k - 1] l[k] l[k + 1] p = true
          · rw [if_pos hs] at hstep ⊢
            unfold F43_J2
            simp only [binV, isShift, cond_false, if_true, binI, Option.bind_some, w1]
            rw [nextS_eq (by simp), hstep]
            rfl
          · rw [if_neg hs] at hstep ⊢
            unfold F43_J2
            simp only [binV, isShift, cond_false, if_true, binI, Option.bind_some, w1]
            rw [nextS_eq (by simp), hstep]
            rfl)
        (by
          have e : 1 + (l.length - 2) = l.length - 1 := by omega
          rw [e]
          have w1 : IntKind.i64.wrap (((l.length - 1 : Nat) : Int) + 1) = (l.length : Int) := by rw [wrap_in (by unfold In64; omega)]; omega
          simp [F43_L2, w1])
      rw [mark2_end (k := l.length - 1) (.inr (by omega))] at key
      exact key
    · have e : l.length = 1 := by omega
      rw [mark2_end (k := 1) (.inr (by omega)), iter_eq]
      have w1 : IntKind.i64.wrap ((1 : Int) + 1) = 2 := by decide
      have n : ¬ (2 : Int) < (l.length : Int) := by omega
      simp [F43_L2, w1, n]
  · rw [mark2_end (k := 1) (.inl hp), iter_eq]
    have w1 : IntKind.i64.wrap ((1 : Int) + 1) = 2 := by decide
    by_cases n : (2 : Int) < (l.length : Int)
    · simp [F43_L2, w1, n, hp]
    · simp [F43_L2, w1, n]

theorem r_rejected {l : List Pt} {t : Tok} {s p : Int} (hl : ∀ q ∈ l, q.Ok) (hs : l.Pairwise fun a b => a.time < b.time) (h1 : 1 ≤ l.length) (h2 : l.length ≤ 1000000) (h4 : s ≤ 10000) (hp1 : p ≤ 10000) (S : Store) :
    call 43 [.sl (pts l) t, i64 s, i64 p] S = some (.sl (bools ((List.range l.length).map (rejP l s p))) .none, S) := by
  rw [k43]
  unfold F43
  have e1 := r_loop1 (t := t) (s := s) (p := p) (S := S) hl hs h1 h2 h4
  have e2 := r_loop2 (t := t) (s := s) (p := p) (S := S) hl h1 h2 hp1
  rw [mark2_one] at e2
  have hroom : room = 4294967296 := rfl
  have hz : msliceV [.bool false] (.int .i64 l.length) (.int .i64 l.length) S = some (.osl S.length 0 l.length 1, S ++ [.obj ((List.replicate l.length false).map .bool)]) := by
    simp only [msliceV]
    rw [if_pos ⟨by omega, by omega, by omega⟩, Int.toNat_natCast, zero_flat]
    rfl
  have hf := fin1_flat (S := S ++ [.obj (((List.range l.length).map (rejP l s p)).map .bool)]) (n := S.length) (i := S.length) (sz := 1) (xs := bools ((List.range l.length).map (rejP l s p))) (Nat.le_refl _) (by rw [bools_flat]; simp) bools_row
  simp only [bools_length, List.length_map, List.length_range] at hf
  refine bind_of (by simp [lenV] <;> rfl) ?_
  refine bind_of (by exact hz) ?_
  refine bind_of (by exact e1) ?_
  refine bind_of (by exact e2) ?_
  show finish false S.length [.osl S.length 0 l.length 1] (S ++ [.obj (((List.range l.length).map (rejP l s p)).map .bool)]) = _
  rw [finish_eq (vs' := [.sl (bools ((List.range l.length).map (rejP l s p))) .none]) (by simp only [fins, hf, Option.bind_some]) (by simp [belows, below])]
  simp

end Go.Proofs.YtlilahgndpdkfaaDoor

/-
  What the timeline's reference says of the line of a name and an element.
-/
namespace Go.Proofs.YtlilahgndpdkfaaDoor
open Go Go.Abs

/-- The place of a new reading. -/
theorem r_place {Q : List Pt} {tk : Tok} {r : Rep} {S : Store} {n0 : Nat} {a8 a10 a16 : AV} (hQ : Q.length ≤ 1000000) :
    iter (fun s => F42_L2 call n0 (.sl (pts Q) tk) a8 (.ip (repR r) 0) a10 a16 (s.1.getD 0 .u) s.2) ([i64 0], S) = some (.exit 2, [i64 (posT r.time Q : Nat)], S) := by
  have hle := posT_le r.time Q
  have key := iter_run (step := fun s => F42_L2 call n0 (.sl (pts Q) tk) a8 (.ip (repR r) 0) a10 a16 (s.1.getD 0 .u) s.2) (fun k => ([i64 (k : Nat)], S)) (r := (Ex.exit 2, [i64 (posT r.time Q : Nat)], S)) (posT r.time Q) 0
    (fun k _ hk => by
      have hkl : k < Q.length := by omega
      have hlt : (k : Int) < (Q.length : Int) := by omega
      have h1 := posT_lt (t := r.time) (l := Q) (j := k) (by omega) hkl
      have w1 : IntKind.i64.wrap ((k : Int) + 1) = (k : Int) + 1 := wrap_in (by unfold In64; omega)
      simp [F42_L2, hlt, indexAV, at_pts hkl, ptR, repR, h1, w1, nextS_same])
    (by
      simp only [Nat.zero_add]
      by_cases hc : posT r.time Q < Q.length
      · have hlt : (posT r.time Q : Int) < (Q.length : Int) := by omega
        have h1 := posT_at (t := r.time) (l := Q) hc
        simp [F42_L2, hlt, indexAV, at_pts hc, ptR, repR, h1]
      · have hlt : ¬ (posT r.time Q : Int) < (Q.length : Int) := by omega
        simp [F42_L2, hlt])
  exact key

/-- A reading put in. -/
theorem r_put {Q : List Pt} {tk : Tok} {S : Store} {p : Pt} {k : Nat} (hk : k ≤ Q.length) (hQ : Q.length ≤ 1000000) :
    ∃ v44 v45 S1 v46 j S2, sliceV 3 (.sl (pts Q) tk) (some (.int .i64 (k : Int))) none none = some v44 ∧ appendV 3 (.sl [ptR p] .full) v44 S = some (v45, S1) ∧ sliceV 3 (.sl (pts Q) tk) none (some (.int .i64 (k : Int))) (some (.int .i64 (k : Int))) = some v46 ∧
      appendV 3 v46 v45 S1 = some (.sl (pts (Q.take k ++ p :: Q.drop k)) (.own j), S2) ∧ S.length ≤ j ∧ ∃ es, S2 = S ++ es := by
  have hroom : room = 4294967296 := rfl
  have hrow : ∀ l : List Pt, immRows 3 (pts l) = some (pts l) := fun l => immRows_self pts_row
  have hsz : ∀ l : List Pt, szOK 3 (pts l) = true := fun l => by cases l <;> rfl
  have hd : (pts Q).drop k = pts (Q.drop k) := by simp [pts, List.map_drop]
  have ht : (pts Q).take k = pts (Q.take k) := by simp [pts, List.map_take]
  have e1 : sliceV 3 (.sl (pts Q) tk) (some (.int .i64 (k : Int))) none none = some (.sl (pts (Q.drop k)) (sliceTok none none tk)) := by
    simp only [sliceV, bound, pts_length, Option.bind_some]
    rw [show (if 0 ≤ (k : Int) ∧ (k : Int) ≤ (Q.length : Int) then some (k : Int).toNat else none) = some k by rw [if_pos ⟨by omega, by omega⟩]; simp]
    simp only [Option.bind_some, mxFits, hsz, Bool.and_true, cond_true]
    rw [show (pts Q).take Q.length = pts Q by rw [List.take_of_length_le (by simp)], hd]
  have e3 : sliceV 3 (.sl (pts Q) tk) none (some (.int .i64 (k : Int))) (some (.int .i64 (k : Int))) = some (.sl (pts (Q.take k)) .full) := by
    simp only [sliceV, bound, pts_length]
    rw [show (if 0 ≤ (k : Int) ∧ (k : Int) ≤ (Q.length : Int) then some (k : Int).toNat else none) = some k by rw [if_pos ⟨by omega, by omega⟩]; simp]
    simp only [Option.bind_some, mxFits, beq_self_eq_true, hsz, Bool.and_true, cond_true, List.drop_zero, ht, sliceTok]
  by_cases hend : Q.drop k = []
  · refine ⟨_, .sl [ptR p] .full, S, _, S.length, S ++ [.tail (k + 1) 3], e1, ?_, e3, ?_, Nat.le_refl _, _, rfl⟩
    · rw [hend]; simp [appendV, pts, immRows]
    · have hp1 : [ptR p] = pts [p] := rfl
      have hlen : (Q.take k).length = k := by simp; omega
      simp only [appendV, rowsOf_sl, Option.bind_some, hp1, hrow]
      rw [show pts [p] = [ptR p] from rfl]
      simp only [List.length_cons, List.length_nil, pts_length, hlen]
      rw [if_pos (by omega)]
      simp only [hsz, cond_true, hend]
      simp [pts]
  · have hlen : (Q.take k).length = k := by simp; omega
    obtain ⟨y, ys, hy⟩ : ∃ y ys, pts (Q.drop k) = y :: ys := by
      cases h : Q.drop k with
      | nil => exact absurd h hend
      | cons a l => exact ⟨_, _, rfl⟩
    have hdl : (Q.drop k).length ≤ Q.length := by simp
    have hr : pts (p :: Q.drop k) = ptR p :: pts (Q.drop k) := rfl
    refine ⟨_, .sl (pts (p :: Q.drop k)) (.own S.length), S ++ [.tail ((Q.drop k).length + 1) 3], _, S.length + 1, S ++ [.tail ((Q.drop k).length + 1) 3] ++ [.tail (k + ((Q.drop k).length + 1)) 3], e1, ?_, e3, ?_, by omega, _, List.append_assoc _ _ _⟩
    · have h1 := hrow (Q.drop k)
      have h2 : (pts (Q.drop k)).length = (Q.drop k).length := by simp
      rw [hy] at h1 h2 ⊢
      simp only [appendV, rowsOf_sl, Option.bind_some, h1]
      rw [if_pos (by simp only [List.length_cons, List.length_nil] at h2 ⊢; omega)]
      simp only [szOK, ptR, List.length_cons, List.length_nil, Nat.beq_refl, cond_true]
      rw [hr, hy]
      simp only [List.length_cons] at h2
      simp [ptR, ← h2, Nat.add_comm]
    · have h1 := hrow (p :: Q.drop k)
      simp only [appendV, rowsOf_sl, Option.bind_some, h1]
      rw [hr]
      have h2 : (pts (Q.drop k)).length = (Q.drop k).length := by simp
      simp only [List.length_cons, h2, pts_length, hlen]
      rw [if_pos (by omega)]
      simp only [hsz, cond_true, List.length_append, List.length_cons, List.length_nil]
      simp [pts]

def plainTok (n : Nat) (tk : Tok) : Prop := tk = .full ∨ ∃ j, tk = .own j ∧ n ≤ j

set_option maxHeartbeats 2000000 in
theorem r_line {l : List Rep} {t : Tok} {x : Key} (hg : Abs.Good l) (hl : l.length ≤ 1000000) (hla : (allR l 0).length ≤ 1000000) (S : Store) :
    ∃ tk, call 42 [.sl (reps l) t, .str x.1, i64 x.2] S = some (.sl (pts (lineP l x)) tk, S) := by
  rw [k42]
  unfold F42
  have key := iter_to (step := fun s => F42_L1 call S.length (.str x.1) (i64 x.2) (.sl (reps l) t) (i64 l.length) (s.1.getD 0 .u) (s.1.getD 1 .u) s.2)
    (fun k s => ∃ Q tk S1, s = ([.sl (pts Q) tk, i64 (k : Nat)], S1) ∧ Q.Perm (ptsOf (allR (l.take k) 0) x) ∧ Q.Pairwise (fun a b => a.time < b.time) ∧ plainTok S.length tk ∧ ∃ es, S1 = S ++ es)
    (fun r => ∃ Q tk S1, r = (.exit 0, [.sl (pts Q) tk], S1) ∧ Q.Perm (ptsOf (allR l 0) x) ∧ Q.Pairwise (fun a b => a.time < b.time) ∧ plainTok S.length tk ∧ ∃ es, S1 = S ++ es) l.length
    (fun k s hk ⟨Q, tk, S1, hs, h1, h2, h3, es, h4⟩ => by
      subst hs
      have hlt : (k : Int) < (l.length : Int) := by omega
      have w1 : IntKind.i64.wrap ((k : Int) + 1) = (k : Int) + 1 := wrap_in (by unfold In64; omega)
      have hv := hg.valid l[k] (List.getElem_mem hk)
      have hrd : l[k].rd.length ≤ 1000000 := by
        have : allR l 0 = allR (l.take (k + 1)) 0 ++ allR (l.drop (k + 1)) (0 + (l.take (k + 1)).length) := by rw [← allR_append, List.take_append_drop]
        rw [this, allR_take hk] at hla
        simp only [List.length_append, entR, List.length_map] at hla
        omega
      have hfind := r_Find (l := l[k].rd) (t := .none) (c := x.2) hrd S1
      have hent := ent_find (r := l[k]) (i := k) (x := x) hv
      have htk := allR_take hk
      have hat := at_reps hk
      have hQl : Q.length ≤ 1000000 := by
        rw [h1.length_eq]
        have h5 := ptsOf_le (allR (l.take k) 0) x
        have : allR l 0 = allR (l.take k) 0 ++ allR (l.drop k) (0 + (l.take k).length) := by rw [← allR_append, List.take_append_drop]
        rw [this, List.length_append] at hla
        omega
      have same : ptsOf (entR k l[k]) x = [] → ∃ s', F42_J1 call S.length S1.length (.sl (pts Q) tk) (i64 (k : Nat)) S1 = some (.inl s') ∧ ∃ Q tk S1, s' = ([.sl (pts Q) tk, i64 ((k + 1 : Nat) : Int)], S1) ∧ Q.Perm (ptsOf (allR (l.take (k + 1)) 0) x) ∧ Q.Pairwise (fun a b => a.time < b.time) ∧ plainTok S.length tk ∧ ∃ es, S1 = S ++ es := fun h0 => by
        refine ⟨([.sl (pts Q) tk, i64 ((k + 1 : Nat) : Int)], S1), ?_, Q, tk, S1, rfl, ?_, h2, h3, es, h4⟩
        · unfold F42_J1
          simp only [binV, isShift, cond_false, if_true, binI, Option.bind_some, w1, nextS_same]
          rfl
        · rw [htk, ptsOf_append, h0, List.append_nil]; exact h1
      simp only [List.getD_cons_zero, List.getD_cons_succ]
      by_cases hn : l[k].name = x.1
      · rw [if_pos hn] at hent
        cases hf : findP l[k].rd x.2 with
        | none =>
          rw [hf] at hent hfind
          obtain ⟨s', e1, e2⟩ := same hent
          refine ⟨s', ?_, e2⟩
          rw [← e1]
          unfold F42_L1
          simp only []
          repeat (first
            | rfl
            | refine cond_t (by rfl) ?_
            | refine cond_f (by rfl) ?_
            | refine ite_of (by first | rfl | assumption) ?_
            | refine bind_of (by simp [-loadV, -storeV, -Int.natCast_add, loadV_ip, hlt, indexAV, hat, repR, hfind, extractV, hn] <;> rfl) ?_)
        | some v =>
          rw [hf] at hent hfind
          simp only at hent
          have hpl := r_place (Q := Q) (tk := tk) (r := l[k]) (S := S1) (n0 := S.length) (a8 := i64 (k : Nat)) (a10 := i64 v) (a16 := i64 (k : Nat)) hQl
          obtain ⟨v44, v45, S2, v46, j, S3, p1, p2, p3, p4, p5, es2, p6⟩ := r_put (Q := Q) (tk := tk) (S := S1) (p := ⟨k, l[k].time, v⟩) (posT_le l[k].time Q) hQl
          simp only [repR, i64, hn] at hpl
          simp only [ptR] at p2
          refine ⟨([.sl (pts (putIn ⟨k, l[k].time, v⟩ Q)) (.own j), i64 ((k + 1 : Nat) : Int)], S3), ?_, putIn ⟨k, l[k].time, v⟩ Q, .own j, S3, rfl, ?_, ?_, .inr ⟨j, rfl, by rw [h4] at p5; simp at p5; omega⟩, es ++ es2, by rw [p6, h4, List.append_assoc]⟩
          · have hJ : F42_J1 call S.length S1.length (.sl (pts (putIn ⟨k, l[k].time, v⟩ Q)) (.own j)) (i64 (k : Nat)) S3 = some (.inl ([.sl (pts (putIn ⟨k, l[k].time, v⟩ Q)) (.own j), i64 ((k + 1 : Nat) : Int)], S3)) := by
              unfold F42_J1
              simp only [binV, isShift, cond_false, if_true, binI, Option.bind_some, w1]
              simp [nextS, belows, below, blt_false p5]
            rw [← hJ]
            unfold F42_L1
            simp only []
            repeat (first
              | refine cond_t (by rfl) ?_
              | refine cond_f (by rfl) ?_
              | refine ite_of (by rfl) ?_
              | refine bind_of (by simp [-loadV, hlt, indexAV, hat, repR, hfind, extractV, hn, loadV_ip] <;> rfl) ?_)
            refine bind_of (by exact hpl) ?_
            simp only [exK_exit, Nat.beq_refl, cond_true]
            refine bind_of (by simp <;> rfl) ?_
            refine bind_of (by simp <;> rfl) ?_
            refine bind_of (by simp [buildV, fillC, setC] <;> rfl) ?_
            refine bind_of (by simp [bsliceV, immRows] <;> rfl) ?_
            refine bind_of (by exact p1) ?_
            refine bind_of (by exact p2) ?_
            refine bind_of (by exact p3) ?_
            refine bind_of (by exact p4) ?_
            rfl
          · rw [htk, ptsOf_append, hent]
            exact (putIn_perm _ _).trans ((h1.cons _).trans (List.perm_append_singleton _ _).symm)
          · refine putIn_sorted h2 fun q hq => ?_
            have hq' := h1.mem_iff.1 hq
            have hnd := hg.times x
            have hsplit : allR l 0 = allR (l.take (k + 1)) 0 ++ allR (l.drop (k + 1)) (0 + (l.take (k + 1)).length) := by rw [← allR_append, List.take_append_drop]
            rw [hsplit, htk, ptsOf_append, ptsOf_append, hent, List.map_append, List.map_append] at hnd
            have h6 := (List.nodup_append.1 (List.nodup_append.1 hnd).1).2.2 q.time (List.mem_map.2 ⟨q, hq', rfl⟩) l[k].time (by simp)
            exact h6
      · rw [if_neg hn] at hent
        obtain ⟨s', e1, e2⟩ := same hent
        refine ⟨s', ?_, e2⟩
        rw [← e1]
        unfold F42_L1
        simp only []
        cases hf : findP l[k].rd x.2 with
        | none =>
          rw [hf] at hfind
          repeat (first
            | rfl
            | refine cond_t (by rfl) ?_
            | refine cond_f (by rfl) ?_
            | refine ite_of (by first | rfl | assumption) ?_
            | refine bind_of (by simp [-loadV, -storeV, -Int.natCast_add, loadV_ip, hlt, indexAV, hat, repR, hfind, extractV, hn] <;> rfl) ?_)
        | some v =>
          rw [hf] at hfind
          repeat (first
            | rfl
            | refine cond_t (by rfl) ?_
            | refine cond_f (by rfl) ?_
            | refine ite_of (by first | rfl | assumption) ?_
            | refine bind_of (by simp [-loadV, -storeV, -Int.natCast_add, loadV_ip, hlt, indexAV, hat, repR, hfind, extractV, hn] <;> rfl) ?_))
    (fun s ⟨Q, tk, S1, hs, h1, h2, h3, h4⟩ => by
      subst hs
      rw [List.take_length] at h1
      exact ⟨(.exit 0, [.sl (pts Q) tk], S1), by simp [F42_L1], Q, tk, S1, rfl, h1, h2, h3, h4⟩) 0 ([.sl [] .full, i64 0], S) (Nat.zero_le _) ⟨[], .full, S, rfl, by simp [allR, ptsOf], .nil, .inl rfl, [], by simp⟩
  obtain ⟨r, k1, Q, tk, S1, rfl, h1, h2, h3, es, rfl⟩ := key
  have hQ := line_unique hg h2 h1
  subst hQ
  refine ⟨(match tk with | .own _ => .none | tk => tk), ?_⟩
  refine bind_of (by simp [lenV] <;> rfl) ?_
  refine bind_of (by exact k1) ?_
  show finish false S.length [.sl (pts (lineP l x)) tk] (S ++ es) = _
  rcases h3 with rfl | ⟨j, rfl, hj⟩
  · rw [finish_eq (vs' := [.sl (pts (lineP l x)) .full]) rfl (by simp [belows, below])]; simp
  · rw [finish_eq (vs' := [.sl (pts (lineP l x)) .none]) (by simp only [fins, fin1, blt_false hj, cond_false, Option.bind_some]) (by simp [belows, below])]; simp

end Go.Proofs.YtlilahgndpdkfaaDoor

/-
  What the timeline's reference answers: the whole; and how flags are compared.
-/
namespace Go.Proofs.YtlilahgndpdkfaaDoor
open Go Go.Abs

theorem s_CheckErr {l : List Rep} {t : Tok} {k : Ctl} (hk : k.Fit) (hl : l.length ≤ 1000000) (hr : ∀ r ∈ l, r.rd.length ≤ 1000000) (he : examP l k ≠ 0) (S : Store) :
    call 17 [.sl (reps l) t, .agg (ctlC k)] S = some (.tup [.sl [] .full, i64 (examP l k)], S) := by
  rw [k17]
  unfold F17
  have hexam := s_examine (l := l) (t := t) (k := k) hk hl (fun r h => by have := hr r h; omega) S
  have himm : imms (ctlC k) = some (ctlC k) := by
    have := imms_i64s (k.hops :: (k.steps ++ k.spikes ++ k.rest))
    simpa [ctlC] using this
  have hlc : (ctlC k).length = 41 := by simp [ctlC, hk.steps, hk.spikes, hk.rest]
  have hta : takeC (some 41) (ctlC k) 0 = some (.agg (ctlC k)) := by
    simp only [takeC]
    rw [if_pos (by omega), List.drop_zero, List.take_of_length_le (by omega)]
  refine bind_of (by simp [himm] <;> rfl) ?_
  refine bind_of (by simp only [List.getD_cons_zero, loadV_ip, hta] <;> rfl) ?_
  refine bind_of (by simp [himm] <;> rfl) ?_
  refine bind_of (by simp [hexam] <;> rfl) ?_
  refine bind_of (a := .bool true) (by simp [he]) ?_
  refine cond_t rfl ?_
  simp [finish]

/-- Flags compared. -/
theorem r_Flags {a b : List (Int × Int)} {t u : Tok} (ha : a.length ≤ 1000000) (S : Store) : call 19 [.sl (flagRows a) t, .sl (flagRows b) u] S = some (.bool (decide (a = b)), S) := by
  rw [k19]
  unfold F19
  by_cases hlen : a.length = b.length
  · have hlen' : ((a.length : Int) = (b.length : Int)) := by omega
    have hata : ∀ (k : Nat) (hk : k < a.length), at? (flagRows a) (k : Int) = some (flagR a[k]) := fun k hk => by rw [at_nat]; simp [flagRows, hk]
    have hatb : ∀ (k : Nat) (hk : k < b.length), at? (flagRows b) (k : Int) = some (flagR b[k]) := fun k hk => by rw [at_nat]; simp [flagRows, hk]
    have key := iter_scan (step := fun s => F19_L1 call S.length (.sl (flagRows a) t) (.sl (flagRows b) u) (s.1.getD 0 .u) s.2) (S := S) (fun k => !(decide (a.getD k (0, 0) = b.getD k (0, 0)))) (rT := fun _ => (Ex.ret, [.bool false], S)) (rE := (Ex.exit 0, [.u], S)) a.length 0
      (fun k k1 k2 => by
        have hk : k < a.length := by omega
        have hkb : k < b.length := by omega
        have hlt : (k : Int) < (a.length : Int) := by omega
        have w1 : IntKind.i64.wrap ((k : Int) + 1) = (k : Int) + 1 := wrap_in (by unfold In64; omega)
        have e1 : a.getD k (0, 0) = a[k] := by rw [List.getD_eq_getElem?_getD, List.getElem?_eq_getElem hk]; rfl
        have e2 : b.getD k (0, 0) = b[k] := by rw [List.getD_eq_getElem?_getD, List.getElem?_eq_getElem hkb]; rfl
        rw [e1, e2]
        by_cases hc : a[k] = b[k]
        · simp [F19_L1, hlt, indexAV, hata k hk, hatb k hkb, flagR, hc, eqcV, eqs, eq1, w1, nextS_same]
        · have hc' : ¬ (a[k].1 = b[k].1 ∧ a[k].2 = b[k].2) := fun h => hc (Prod.ext h.1 h.2)
          by_cases h1 : a[k].1 = b[k].1
          · have h2 : ¬ a[k].2 = b[k].2 := fun h => hc' ⟨h1, h⟩
            simp [F19_L1, hlt, indexAV, hata k hk, hatb k hkb, flagR, hc, eqcV, eqs, eq1, h1, h2]
          · simp [F19_L1, hlt, indexAV, hata k hk, hatb k hkb, flagR, hc, eqcV, eqs, eq1, h1])
      (by simp [F19_L1])
    simp only [Int.natCast_zero, i64] at key
    rcases key with ⟨k, k1, k2, k3, k4, k5⟩ | ⟨k1, k2⟩
    · have hne : ¬ a = b := fun h => by subst h; simp at k3
      simp [-List.getD_eq_getElem?_getD, List.getD_cons_zero, List.getD_cons_succ, lenV, hlen', k5, hne]
    · have heq : a = b := by
        apply List.ext_getElem hlen
        intro i h1 h2
        have := k1 i (Nat.zero_le _) (by omega)
        rw [List.getD_eq_getElem?_getD, List.getElem?_eq_getElem h1, List.getD_eq_getElem?_getD, List.getElem?_eq_getElem h2] at this
        simpa using this
      subst heq
      simp [-List.getD_eq_getElem?_getD, List.getD_cons_zero, List.getD_cons_succ, lenV, k2]
  · have hlen' : ¬ ((a.length : Int) = (b.length : Int)) := by omega
    have hne : ¬ a = b := fun h => hlen (by rw [h])
    simp [lenV, hlen', hlen, hne]

end Go.Proofs.YtlilahgndpdkfaaDoor

/-
  The timeline's reference: what it examines.
-/
namespace Go.Proofs.YtlilahgndpdkfaaDoor
open Go Go.Abs

def badN (n : Int) : Bool := decide (n < 0) || decide (10000 < n)

theorem ctl_at {k : Ctl} (hk : k.Fit) {j : Nat} (hj : j < 12) :
    indexAV 1 (some 12) (.ip (ctlC k) 1) (.int .i64 (j : Int)) = some (.ip (ctlC k) (1 + j)) ∧ takeC none (ctlC k) (1 + j) = some (i64 (k.steps.getD j 0)) ∧
    indexAV 1 (some 12) (.ip (ctlC k) 13) (.int .i64 (j : Int)) = some (.ip (ctlC k) (13 + j)) ∧ takeC none (ctlC k) (13 + j) = some (i64 (k.spikes.getD j 0)) := by
  refine ⟨by simp only [indexAV]; rw [if_pos ⟨by omega, by omega⟩]; simp, ?_, by simp only [indexAV]; rw [if_pos ⟨by omega, by omega⟩]; simp, ?_⟩
  · show (ctlC k)[1 + j]? = _
    unfold ctlC
    rw [Nat.add_comm, List.getElem?_cons_succ, List.getElem?_map, List.append_assoc, List.getElem?_append_left (by rw [hk.steps]; exact hj), List.getElem?_eq_getElem (by rw [hk.steps]; exact hj)]
    simp [hk.steps, hj]
  · show (ctlC k)[13 + j]? = _
    unfold ctlC
    rw [show 13 + j = 12 + j + 1 by omega, List.getElem?_cons_succ, List.getElem?_map, List.append_assoc, List.getElem?_append_right (by rw [hk.steps]; omega), hk.steps, show 12 + j - 12 = j by omega,
      List.getElem?_append_left (by rw [hk.spikes]; exact hj), List.getElem?_eq_getElem (by rw [hk.spikes]; exact hj)]
    simp [hk.spikes, hj]

set_option maxHeartbeats 2000000 in
theorem r_loopP {k : Ctl} (hk : k.Fit) (t0 : AV) (S : Store) :
    iter (fun s => F18_L1 call S.length t0 (.ip (ctlC k) 0) (s.1.getD 0 .u) s.2) ([i64 0], S) = some (if possP k.steps && possP k.spikes then (.exit 0, [.u, .u], S) else (.ret, [.sl [] .full, i64 1], S)) := by
  have key := iter_scan (step := fun s => F18_L1 call S.length t0 (.ip (ctlC k) 0) (s.1.getD 0 .u) s.2) (S := S) (fun j => badN (k.steps.getD j 0) || badN (k.spikes.getD j 0)) (rT := fun _ => (Ex.ret, [.sl [] .full, i64 1], S)) (rE := (Ex.exit 0, [.u, .u], S)) 12 0
    (fun j _ hj => by
      obtain ⟨g1, g2, g3, g4⟩ := ctl_at hk (j := j) (by omega)
      have hlt : (j : Int) < 12 := by omega
      have w1 : IntKind.i64.wrap ((j : Int) + 1) = (j : Int) + 1 := wrap_in (by unfold In64; omega)
      generalize k.steps.getD j 0 = a at g2 ⊢
      generalize k.spikes.getD j 0 = b at g4 ⊢
      have hn := nextS_same (b := S.length) (vs := [.int .i64 ((j : Int) + 1)]) (S := S)
      simp only [List.getD_cons_zero]
      unfold badN
      by_cases a1 : a < 0
      · simp only [a1, decide_true, Bool.true_or, if_true]
        unfold F18_L1
        repeat (first
          | rfl
          | refine cond_t (by rfl) ?_
          | refine cond_f (by rfl) ?_
          | refine ite_of (by first | rfl | assumption) ?_
          | refine bind_of (by simp [-loadV, -storeV, -Int.natCast_add, loadV_ip, -take_none, hlt, g1, g2, a1] <;> rfl) ?_)
      · by_cases a2 : 10000 < a
        · simp only [a2, decide_true, Bool.true_or, Bool.or_true, if_true]
          unfold F18_L1
          repeat (first
            | rfl
            | refine cond_t (by rfl) ?_
            | refine cond_f (by rfl) ?_
            | refine ite_of (by first | rfl | assumption) ?_
            | refine bind_of (by simp [-loadV, -storeV, -Int.natCast_add, loadV_ip, -take_none, hlt, g1, g2, a1, a2] <;> rfl) ?_)
        · by_cases b1 : b < 0
          · simp only [a1, a2, b1, decide_true, decide_false, Bool.true_or, Bool.or_true, if_true]
            unfold F18_L1
            repeat (first
              | rfl
              | refine cond_t (by rfl) ?_
              | refine cond_f (by rfl) ?_
              | refine ite_of (by first | rfl | assumption) ?_
              | refine bind_of (by simp [-loadV, -storeV, -Int.natCast_add, loadV_ip, -take_none, hlt, g1, g2, g3, g4, a1, a2, b1] <;> rfl) ?_)
          · by_cases b2 : 10000 < b
            · simp only [a1, a2, b1, b2, decide_true, decide_false, Bool.true_or, Bool.or_true, if_true]
              unfold F18_L1
              repeat (first
                | rfl
                | refine cond_t (by rfl) ?_
                | refine cond_f (by rfl) ?_
                | refine ite_of (by first | rfl | assumption) ?_
                | refine bind_of (by simp [-loadV, -storeV, -Int.natCast_add, loadV_ip, -take_none, hlt, g1, g2, g3, g4, a1, a2, b1, b2] <;> rfl) ?_)
            · simp only [a1, a2, b1, b2, decide_false, Bool.or_false, Bool.false_eq_true, if_false]
              unfold F18_L1
              repeat (first
                | rfl
                | refine cond_t (by rfl) ?_
                | refine cond_f (by rfl) ?_
                | refine ite_of (by first | rfl | assumption) ?_
                | refine bind_of (by simp [-loadV, -storeV, -Int.natCast_add, loadV_ip, -take_none, hlt, g1, g2, g3, g4, a1, a2, b1, b2, w1, hn] <;> rfl) ?_))
    (by simp [F18_L1])
  simp only [Int.natCast_zero] at key
  have poss : ∀ l : List Int, l.length = 12 → (possP l = true ↔ ∀ j, j < 12 → badN (l.getD j 0) = false) := fun l hl => by
    unfold possP badN
    simp only [Bool.not_eq_true', List.any_eq_false]
    constructor
    · intro h j hj
      have := h (l.getD j 0) (by rw [List.getD_eq_getElem?_getD, List.getElem?_eq_getElem (by omega)]; exact List.getElem_mem _)
      simpa using this
    · intro h n hn
      obtain ⟨j, hj, rfl⟩ := List.getElem_of_mem hn
      have := h j (by omega)
      rw [List.getD_eq_getElem?_getD, List.getElem?_eq_getElem hj] at this
      simpa using this
  rcases key with ⟨j, j1, j2, j3, j4, j5⟩ | ⟨j1, j2⟩
  · rw [j5]
    have : ¬ (possP k.steps && possP k.spikes) = true := fun h => by
      simp only [Bool.and_eq_true] at h
      rw [(poss _ hk.steps).1 h.1 j (by omega), (poss _ hk.spikes).1 h.2 j (by omega)] at j3
      cases j3
    rw [if_neg this]
  · rw [j2]
    have : (possP k.steps && possP k.spikes) = true := by
      simp only [Bool.and_eq_true]
      refine ⟨(poss _ hk.steps).2 fun j hj => ?_, (poss _ hk.spikes).2 fun j hj => ?_⟩
      · have := j1 j (Nat.zero_le _) (by omega)
        simp only [Bool.or_eq_false_iff] at this
        exact this.1
      · have := j1 j (Nat.zero_le _) (by omega)
        simp only [Bool.or_eq_false_iff] at this
        exact this.2
    rw [if_pos this]

theorem r_loopV {l : List Rep} {t : Tok} (hl : l.length ≤ 1000000) (hr : ∀ r ∈ l, r.rd.length ≤ 1000000) (t3 : AV) (S : Store) :
    iter (fun s => F18_L2 call S.length (.sl (reps l) t) t3 (.sl (reps l) t) (i64 l.length) (s.1.getD 0 .u) s.2) ([i64 0], S) = some (if firstP l = 0 then (.exit 2, [.u, .u], S) else (.ret, [.sl [] .full, i64 (firstP l)], S)) := by
  have key := iter_scan (step := fun s => F18_L2 call S.length (.sl (reps l) t) t3 (.sl (reps l) t) (i64 l.length) (s.1.getD 0 .u) s.2) (S := S) (fun j => !decide (validP (l.getD j ⟨0, [], 0, 0, 0, 0, 0, []⟩).rd = 0)) (rT := fun j => (Ex.ret, [.sl [] .full, i64 (validP (l.getD j ⟨0, [], 0, 0, 0, 0, 0, []⟩).rd)], S)) (rE := (Ex.exit 2, [.u, .u], S)) l.length 0
    (fun j j1 j2 => by
      have hj : j < l.length := by omega
      have hlt : (j : Int) < (l.length : Int) := by omega
      have hg : l.getD j ⟨0, [], 0, 0, 0, 0, 0, []⟩ = l[j] := by rw [List.getD_eq_getElem?_getD, List.getElem?_eq_getElem hj]; rfl
      rw [hg]
      have hv := r_Validate (l := l[j].rd) (t := .none) (hr _ (List.getElem_mem hj)) S
      have w1 : IntKind.i64.wrap ((j : Int) + 1) = (j : Int) + 1 := wrap_in (by unfold In64; omega)
      have hat' := at_reps hj
      by_cases h0 : validP l[j].rd = 0
      · rw [h0] at hv
        simp [F18_L2, hlt, indexAV, hat', repR, hv, h0, w1, nextS_same]
      · simp [F18_L2, hlt, indexAV, hat', repR, hv, h0])
    (by simp [F18_L2])
  simp only [Int.natCast_zero] at key
  rcases key with ⟨j, j1, j2, j3, j4, j5⟩ | ⟨j1, j2⟩
  · have hj : j < l.length := by omega
    have hg : l.getD j ⟨0, [], 0, 0, 0, 0, 0, []⟩ = l[j] := by rw [List.getD_eq_getElem?_getD, List.getElem?_eq_getElem hj]; rfl
    rw [hg] at j3 j5
    have hv : validP l[j].rd ≠ 0 := by simpa using j3
    have hf := firstP_at hj hv fun i hi => by
      have := j4 i (Nat.zero_le _) hi
      rw [List.getD_eq_getElem?_getD, List.getElem?_eq_getElem (by omega)] at this
      simpa using this
    rw [hf, if_neg hv, j5]
  · have hf : firstP l = 0 := firstP_all.2 fun r hr => by
      obtain ⟨i, hi, rfl⟩ := List.getElem_of_mem hr
      have := j1 i (Nat.zero_le _) (by omega)
      rw [List.getD_eq_getElem?_getD, List.getElem?_eq_getElem hi] at this
      simpa using this
    rw [if_pos hf, j2]

theorem r_loopT {l : List Rep} {t : Tok} (hl : l.length ≤ 1000000) (t3 : AV) (S : Store) :
    iter (fun s => F18_L3 call S.length (.sl (reps l) t) t3 (.sl (reps l) t) (i64 l.length) (s.1.getD 0 .u) s.2) ([i64 0], S) = some (if (l.all fun r => inP r.time) = true then (.exit 4, [.u, .u], S) else (.ret, [.sl [] .full, i64 1], S)) := by
  have key := iter_scan (step := fun s => F18_L3 call S.length (.sl (reps l) t) t3 (.sl (reps l) t) (i64 l.length) (s.1.getD 0 .u) s.2) (S := S) (fun j => !inP (l.getD j ⟨0, [], 0, 0, 0, 0, 0, []⟩).time) (rT := fun _ => (Ex.ret, [.sl [] .full, i64 1], S)) (rE := (Ex.exit 4, [.u, .u], S)) l.length 0
    (fun j j1 j2 => by
      have hj : j < l.length := by omega
      have hlt : (j : Int) < (l.length : Int) := by omega
      have hg : l.getD j ⟨0, [], 0, 0, 0, 0, 0, []⟩ = l[j] := by rw [List.getD_eq_getElem?_getD, List.getElem?_eq_getElem hj]; rfl
      rw [hg]
      have hv := r_In l[j].time S
      have w1 : IntKind.i64.wrap ((j : Int) + 1) = (j : Int) + 1 := wrap_in (by unfold In64; omega)
      have hat' := at_reps hj
      cases h0 : inP l[j].time with
      | true =>
        rw [h0] at hv
        simp [F18_L3, hlt, indexAV, hat', repR, hv, w1, nextS_same]
      | false =>
        rw [h0] at hv
        simp [F18_L3, hlt, indexAV, hat', repR, hv])
    (by simp [F18_L3])
  simp only [Int.natCast_zero] at key
  rcases key with ⟨j, j1, j2, j3, j4, j5⟩ | ⟨j1, j2⟩
  · have hj : j < l.length := by omega
    have hg : l.getD j ⟨0, [], 0, 0, 0, 0, 0, []⟩ = l[j] := by rw [List.getD_eq_getElem?_getD, List.getElem?_eq_getElem hj]; rfl
    rw [hg] at j3
    have : ¬ (l.all fun r => inP r.time) = true := fun h => by
      have := List.all_eq_true.1 h l[j] (List.getElem_mem hj)
      rw [this] at j3; cases j3
    rw [if_neg this, j5]
  · have : (l.all fun r => inP r.time) = true := List.all_eq_true.2 fun r hr => by
      obtain ⟨i, hi, rfl⟩ := List.getElem_of_mem hr
      have := j1 i (Nat.zero_le _) (by omega)
      rw [List.getD_eq_getElem?_getD, List.getElem?_eq_getElem hi] at this
      simpa using this
    rw [if_pos this, j2]

end Go.Proofs.YtlilahgndpdkfaaDoor

/-
  The timeline's reference: reports that are there twice.
-/
namespace Go.Proofs.YtlilahgndpdkfaaDoor
open Go Go.Abs

abbrev rep0 : Rep := ⟨0, [], 0, 0, 0, 0, 0, []⟩

theorem getD_rep {l : List Rep} {j : Nat} (hj : j < l.length) : l.getD j rep0 = l[j] := by rw [List.getD_eq_getElem?_getD, List.getElem?_eq_getElem hj]; rfl

set_option maxHeartbeats 1000000 in
theorem r_loopI {l : List Rep} {t : Tok} {i : Nat} (hi : i < l.length) (hl : l.length ≤ 1000000) (a : AV) (S : Store) :
    iter (fun s => F18_L5 call S.length (.sl (reps l) t) (i64 (i : Nat)) a (s.1.getD 0 .u) s.2) ([i64 0], S) = some (if ((List.range i).any fun j => decide (keyR (l.getD i rep0) = keyR (l.getD j rep0))) = true then (.ret, [.sl [] .full, i64 5], S) else (.exit 8, [.u, .u], S)) := by
  have hix : ∀ (q : Nat) (hq : q < l.length), indexAV 8 none (.sl (reps l) t) (.int .i64 (q : Int)) = some (.ip (repR l[q]) 0) := fun q hq => by simp [indexAV, at_reps hq]
  have key := iter_scan (step := fun s => F18_L5 call S.length (.sl (reps l) t) (i64 (i : Nat)) a (s.1.getD 0 .u) s.2) (S := S) (fun j => decide (keyR (l.getD i rep0) = keyR (l.getD j rep0))) (rT := fun _ => (Ex.ret, [.sl [] .full, i64 5], S)) (rE := (Ex.exit 8, [.u, .u], S)) i 0
    (fun j j1 j2 => by
      have hj : j < l.length := by omega
      have hlt : (j : Int) < (i : Int) := by omega
      have w1 : IntKind.i64.wrap ((j : Int) + 1) = (j : Int) + 1 := wrap_in (by unfold In64; omega)
      have h1 := hix i hi
      have h2 := hix j hj
      have hn := nextS_same (b := S.length) (vs := [.int .i64 ((j : Int) + 1)]) (S := S)
      rw [getD_rep hi, getD_rep hj]
      simp only [repR] at h1 h2
      simp only [List.getD_cons_zero]
      by_cases a1 : l[i].name = l[j].name
      · by_cases a2 : l[i].time = l[j].time
        · have : keyR l[i] = keyR l[j] := by simp [keyR, a1, a2]
          simp only [this, decide_true, if_true]
          unfold F18_L5
          repeat (first
            | rfl
            | refine cond_t (by rfl) ?_
            | refine cond_f (by rfl) ?_
            | refine ite_of (by first | rfl | assumption) ?_
            | refine bind_of (by simp [-loadV, -storeV, -Int.natCast_add, loadV_ip, hlt, h1, h2, a1, a2, binS] <;> rfl) ?_)
        · have : ¬ keyR l[i] = keyR l[j] := fun h => a2 (Prod.ext_iff.1 h).2
          have a3 : (l[i].time == l[j].time) = false := by simpa using a2
          simp only [this, decide_false, Bool.false_eq_true, if_false]
          unfold F18_L5
          repeat (first
            | rfl
            | refine cond_t (by rfl) ?_
            | refine cond_f (by rfl) ?_
            | refine ite_of (by first | rfl | assumption) ?_
            | refine bind_of (by simp [-loadV, -storeV, -Int.natCast_add, loadV_ip, hlt, h1, h2, a1, a3, binS, w1, hn] <;> rfl) ?_)
      · have : ¬ keyR l[i] = keyR l[j] := fun h => a1 (Prod.ext_iff.1 h).1
        have a3 : (l[i].name == l[j].name) = false := by simpa using a1
        simp only [this, decide_false, Bool.false_eq_true, if_false]
        unfold F18_L5
        repeat (first
          | rfl
          | refine cond_t (by rfl) ?_
          | refine cond_f (by rfl) ?_
          | refine ite_of (by first | rfl | assumption) ?_
          | refine bind_of (by simp [-loadV, -storeV, -Int.natCast_add, loadV_ip, hlt, h1, h2, a3, binS, w1, hn] <;> rfl) ?_))
    (by simp [F18_L5])
  simp only [Int.natCast_zero] at key
  rcases key with ⟨j, j1, j2, j3, j4, j5⟩ | ⟨j1, j2⟩
  · rw [if_pos (List.any_eq_true.2 ⟨j, List.mem_range.2 (by omega), j3⟩), j5]
  · rw [if_neg (fun h => by
      obtain ⟨j, hj, h2⟩ := List.any_eq_true.1 h
      rw [j1 j (Nat.zero_le _) (by simpa using hj)] at h2; cases h2), j2]

theorem twice_iff {l : List Rep} : twiceP l = true ↔ ∃ i, i < l.length ∧ ((List.range i).any fun j => decide (keyR (l.getD i rep0) = keyR (l.getD j rep0))) = true := by
  unfold twiceP
  simp only [Bool.not_eq_true', decide_eq_false_iff_not]
  rw [List.Nodup, List.pairwise_map, List.pairwise_iff_getElem]
  constructor
  · intro h
    simp only [Classical.not_forall] at h
    obtain ⟨i, j, hi, hj, hij, h⟩ := h
    refine ⟨j, hj, List.any_eq_true.2 ⟨i, List.mem_range.2 hij, ?_⟩⟩
    rw [getD_rep hj, getD_rep hi]
    simp only [decide_eq_true_eq]
    exact (Classical.not_not.1 h).symm
  · rintro ⟨i, hi, h⟩ hn
    obtain ⟨j, hj, h2⟩ := List.any_eq_true.1 h
    have hj' : j < i := List.mem_range.1 hj
    rw [getD_rep hi, getD_rep (by omega)] at h2
    have h3 : keyR l[i] = keyR l[j] := by simpa using h2
    exact hn j i (by omega) hi hj' h3.symm

theorem r_loopD {l : List Rep} {t : Tok} (hl : l.length ≤ 1000000) (t3 : AV) (S : Store) :
    iter (fun s => F18_L4 call S.length (.sl (reps l) t) t3 (i64 l.length) (s.1.getD 0 .u) s.2) ([i64 0], S) = some (if twiceP l = true then (.ret, [.sl [] .full, i64 5], S) else (.exit 6, [.u, .u], S)) := by
  have key := iter_scan (step := fun s => F18_L4 call S.length (.sl (reps l) t) t3 (i64 l.length) (s.1.getD 0 .u) s.2) (S := S) (fun i => (List.range i).any fun j => decide (keyR (l.getD i rep0) = keyR (l.getD j rep0))) (rT := fun _ => (Ex.ret, [.sl [] .full, i64 5], S)) (rE := (Ex.exit 6, [.u, .u], S)) l.length 0
    (fun i i1 i2 => by
      have hi : i < l.length := by omega
      have hlt : (i : Int) < (l.length : Int) := by omega
      have w1 : IntKind.i64.wrap ((i : Int) + 1) = (i : Int) + 1 := wrap_in (by unfold In64; omega)
      have hI := r_loopI (t := t) hi hl (i64 (i : Nat)) S
      cases hc : (List.range i).any fun j => decide (keyR (l.getD i rep0) = keyR (l.getD j rep0)) with
      | true =>
        rw [hc] at hI
        simp only [i64, if_true] at hI
        simp [-List.getD_eq_getElem?_getD, List.getD_cons_zero, List.getD_cons_succ, F18_L4, hlt, hI]
      | false =>
        rw [hc] at hI
        simp only [i64, Bool.false_eq_true, if_false] at hI
        simp [-List.getD_eq_getElem?_getD, List.getD_cons_zero, F18_L4, hlt, hI, w1, nextS_same])
    (by simp [F18_L4])
  simp only [Int.natCast_zero] at key
  rcases key with ⟨i, i1, i2, i3, i4, i5⟩ | ⟨i1, i2⟩
  · rw [if_pos (twice_iff.2 ⟨i, by omega, i3⟩), i5]
  · rw [if_neg (fun h => by
      obtain ⟨i, hi, h2⟩ := twice_iff.1 h
      rw [i1 i (Nat.zero_le _) (by omega)] at h2; cases h2), i2]

end Go.Proofs.YtlilahgndpdkfaaDoor

/-
  The timeline's reference: the flags.
-/
namespace Go.Proofs.YtlilahgndpdkfaaDoor
open Go Go.Abs

theorem flagsOf_ofRep {L : List Pt} {s p c : Int} {k i : Nat} (hk : k < L.length) : ofRep i (flagsOf L s p c (k + 1)) = ofRep i (flagsOf L s p c k) ++ if rejP L s p k = true ∧ L[k].rep = (i : Int) then [((i : Int), c)] else [] := by
  unfold flagsOf ofRep
  rw [List.range_succ, List.filter_append, List.map_append, List.filter_append]
  congr 1
  by_cases h : rejP L s p k = true
  · by_cases h2 : L[k].rep = (i : Int) <;> simp [h, hk, h2]
  · simp [h]

theorem ownV_own {S : Store} {i : Nat} {xs : List (List AV)} : ownV 3 (.sl xs (.own i)) S = some (.sl xs (.own i), S) := rfl

/-- The flags of a reading. -/
theorem r_loopF {L : List Pt} {s p c : Int} {i : Nat} {tl tb : Tok} {R : List (Int × Int)} {S : Store} {a b : AV} (hL : L.length ≤ 1000000) (hR : R.length ≤ 1000000) :
    iter (fun st => F18_L8 call S.length (i64 (i : Nat)) (.ip [i64 c, b] 0) (.sl (pts L) tl) (.sl (bools ((List.range L.length).map (rejP L s p))) tb) a (i64 L.length) (st.1.getD 0 .u) (st.1.getD 1 .u) st.2) ([.sl (flagRows R) (.own S.length), i64 0], S ++ [.tail R.length 3]) =
      some (.exit 14, [.sl (flagRows (R ++ ofRep i (flagsOf L s p c L.length))) (.own S.length)], S ++ [.tail (R ++ ofRep i (flagsOf L s p c L.length)).length 3]) := by
  have hroom : room = 4294967296 := rfl
  have hlen : ∀ n, n ≤ L.length → (ofRep i (flagsOf L s p c n)).length ≤ n := fun n _ => Nat.le_trans (List.length_filter_le _ _) flagsOf_le
  have key := iter_run (step := fun st => F18_L8 call S.length (i64 (i : Nat)) (.ip [i64 c, b] 0) (.sl (pts L) tl) (.sl (bools ((List.range L.length).map (rejP L s p))) tb) a (i64 L.length) (st.1.getD 0 .u) (st.1.getD 1 .u) st.2)
    (fun k => ([.sl (flagRows (R ++ ofRep i (flagsOf L s p c k))) (.own S.length), i64 (k : Nat)], S ++ [.tail (R ++ ofRep i (flagsOf L s p c k)).length 3])) (r := (.exit 14, [.sl (flagRows (R ++ ofRep i (flagsOf L s p c L.length))) (.own S.length)], S ++ [.tail (R ++ ofRep i (flagsOf L s p c L.length)).length 3])) L.length 0
    (fun k _ hk => by
      have hk : k < L.length := by omega
      have hlt : (k : Int) < (L.length : Int) := by omega
      have w1 : IntKind.i64.wrap ((k : Int) + 1) = (k : Int) + 1 := wrap_in (by unfold In64; omega)
      have h1 : indexAV 3 none (.sl (pts L) tl) (.int .i64 (k : Int)) = some (.ip [i64 L[k].rep, i64 L[k].time, i64 L[k].val] 0) := by simp [indexAV, at_pts hk, ptR]
      have hkm : k < ((List.range L.length).map (rejP L s p)).length := by simpa using hk
      have h2 : indexAV 1 none (.sl (bools ((List.range L.length).map (rejP L s p))) tb) (.int .i64 (k : Int)) = some (.ip [.bool (rejP L s p k)] 0) := by simp [indexAV, at_bools hkm]
      have hll := hlen k (by omega)
      have hsucc := flagsOf_ofRep (s := s) (p := p) (c := c) (i := i) hk
      have hJ : ∀ R' : List (Int × Int), F18_J1 call S.length (S ++ [Ent.tail (R ++ ofRep i (flagsOf L s p c k)).length 3]).length (.sl (flagRows R') (.own S.length)) (i64 (k : Nat)) (S ++ [.tail R'.length 3]) = some (.inl ([.sl (flagRows R') (.own S.length), i64 ((k + 1 : Nat) : Int)], S ++ [.tail R'.length 3])) := fun R' => by
        unfold F18_J1
        simp only [binV, isShift, cond_false, if_true, binI, Option.bind_some, w1]
        rw [nextS_eq (by simp)]
        rfl
      have hXl : (R ++ ofRep i (flagsOf L s p c k)).length ≤ 2000000 := by simp only [List.length_append]; omega
      simp only [List.getD_cons_zero, List.getD_cons_succ]
      by_cases hr : L[k].rep = (i : Int)
      · cases hc : rejP L s p k with
        | true =>
          rw [hc] at h2
          rw [if_pos ⟨hc, hr⟩] at hsucc
          rw [hsucc, ← List.append_assoc]
          rw [← hJ]
          generalize R ++ ofRep i (flagsOf L s p c k) = X at hXl ⊢
          have happ : appendV 3 (.sl (flagRows X) (.own S.length)) (.sl [[i64 (i : Int), i64 c, i64 4]] .full) (S ++ [.tail X.length 3]) = some (.sl (flagRows (X ++ [((i : Int), c)])) (.own S.length), S ++ [.tail (X ++ [((i : Int), c)]).length 3]) := by
            simp only [appendV, rowsOf_sl, Option.bind_some, immRows, List.length_cons, List.length_nil, imms, imm1, if_true]
            rw [if_pos (by simp only [flagRows_length]; omega)]
            simp only [List.getElem?_concat_length, flagRows_length]
            rw [if_pos ⟨by trivial, by trivial⟩, List.set_append_right _ _ (Nat.le_refl _)]
            simp [flagRows, flagR]
          unfold F18_L8
          generalize F18_J1 = J
          simp only []
          repeat (first
            | rfl
            | refine cond_t (by rfl) ?_
            | refine cond_f (by rfl) ?_
            | refine ite_of (by first | rfl | assumption) ?_
            | refine bind_of (by simp [-loadV, -storeV, -Int.natCast_add, loadV_ip, -List.length_append, hlt, h1, h2, hr, buildV, fillC, setC, bsliceV, immRows, happ, ownV_own] <;> rfl) ?_)
        | false =>
          rw [hc] at h2
          rw [if_neg (by simp [hc]), List.append_nil] at hsucc
          rw [hsucc, ← hJ]
          generalize R ++ ofRep i (flagsOf L s p c k) = X
          unfold F18_L8
          generalize F18_J1 = J
          simp only []
          repeat (first
            | rfl
            | refine cond_t (by rfl) ?_
            | refine cond_f (by rfl) ?_
            | refine ite_of (by first | rfl | assumption) ?_
            | refine bind_of (by simp [-loadV, -storeV, -Int.natCast_add, loadV_ip, -List.length_append, hlt, h1, h2, hr] <;> rfl) ?_)
      · have hr' : (L[k].rep == (i : Int)) = false := by simpa using hr
        rw [if_neg (fun h => hr h.2), List.append_nil] at hsucc
        rw [hsucc, ← hJ]
        generalize R ++ ofRep i (flagsOf L s p c k) = X
        unfold F18_L8
        generalize F18_J1 = J
        simp only []
        repeat (first
          | rfl
          | refine cond_t (by rfl) ?_
          | refine cond_f (by rfl) ?_
          | refine ite_of (by first | rfl | assumption) ?_
          | refine bind_of (by simp [-loadV, -storeV, -Int.natCast_add, loadV_ip, -List.length_append, hlt, h1, h2, hr, hr'] <;> rfl) ?_))
    (by
      simp only [Nat.zero_add]
      simp [F18_L8])
  have e0 : ofRep i (flagsOf L s p c 0) = [] := rfl
  rw [e0, List.append_nil] at key
  exact key

end Go.Proofs.YtlilahgndpdkfaaDoor

/-
  The timeline's reference: the flags of all reports.
-/
namespace Go.Proofs.YtlilahgndpdkfaaDoor
open Go Go.Abs

theorem allR_split {l : List Rep} {i : Nat} (hi : i < l.length) : (allR l 0).length = (allR (l.take i) 0).length + (l[i].rd.length + (allR (l.drop (i + 1)) (0 + (l.take (i + 1)).length)).length) := by
  have : allR l 0 = allR (l.take (i + 1)) 0 ++ allR (l.drop (i + 1)) (0 + (l.take (i + 1)).length) := by rw [← allR_append, List.take_append_drop]
  rw [this, allR_take hi]
  simp only [List.length_append, entR, List.length_map]
  omega

theorem ofRep_le {i : Nat} {F : List (Int × Int)} : (ofRep i F).length ≤ F.length := List.length_filter_le _ _

set_option maxHeartbeats 2000000 in
/-- The flags of a report. -/
theorem r_loopR {l : List Rep} {t : Tok} {k : Ctl} {i : Nat} {R : List (Int × Int)} {S : Store} {a : AV} (hk : k.Fit) (hg : Abs.Good l) (hps : possP k.steps = true) (hpk : possP k.spikes = true) (hl : l.length ≤ 1000000) (hla : (allR l 0).length ≤ 1000000) (hi : i < l.length)
    (hb : ∀ n, n ≤ l[i].rd.length → (R ++ rowFlags l k i l[i] n).length ≤ 1000000) :
    iter (fun st => F18_L7 call S.length (.sl (reps l) t) (.ip (ctlC k) 0) (i64 (i : Nat)) (.ip (repR l[i]) 0) a (.sl (rds l[i].rd) .none) (i64 l[i].rd.length) (st.1.getD 0 .u) (st.1.getD 1 .u) st.2) ([.sl (flagRows R) (.own S.length), i64 0], S ++ [Ent.tail R.length 3]) =
      some (.exit 12, [.sl (flagRows (R ++ rowFlags l k i l[i] l[i].rd.length)) (.own S.length)], S ++ [Ent.tail (R ++ rowFlags l k i l[i] l[i].rd.length).length 3]) := by
  have key := iter_run (step := fun st => F18_L7 call S.length (.sl (reps l) t) (.ip (ctlC k) 0) (i64 (i : Nat)) (.ip (repR l[i]) 0) a (.sl (rds l[i].rd) .none) (i64 l[i].rd.length) (st.1.getD 0 .u) (st.1.getD 1 .u) st.2)
    (fun n => ([.sl (flagRows (R ++ rowFlags l k i l[i] n)) (.own S.length), i64 (n : Nat)], S ++ [Ent.tail (R ++ rowFlags l k i l[i] n).length 3])) (r := (.exit 12, [.sl (flagRows (R ++ rowFlags l k i l[i] l[i].rd.length)) (.own S.length)], S ++ [Ent.tail (R ++ rowFlags l k i l[i] l[i].rd.length).length 3])) l[i].rd.length 0
    (fun n _ hn => by
      have hn : n < l[i].rd.length := by omega
      have hlt : (n : Int) < (l[i].rd.length : Int) := by omega
      have hsp := allR_split hi
      have w1 : IntKind.i64.wrap ((n : Int) + 1) = (n : Int) + 1 := wrap_in (by unfold In64; omega)
      have hv := (validP_zero (hg.valid l[i] (List.getElem_mem hi))).1 l[i].rd[n] (List.getElem_mem hn)
      obtain ⟨c1, c2, _, _⟩ := checkP_zero hv
      have h1 : indexAV 2 none (.sl (rds l[i].rd) .none) (.int .i64 (n : Int)) = some (.ip [i64 l[i].rd[n].1, i64 l[i].rd[n].2] 0) := by simp [indexAV, at_rds hn]
      obtain ⟨g1, g2, g3, g4⟩ := ctl_get hk c1 c2
      have hx : (l[i].name, l[i].rd[n].1) ∈ seenK ((allR l 0).map (·.1)) := by
        rw [mem_seenK]
        exact List.mem_map.2 ⟨_, mem_allR.2 ⟨i, l[i], l[i].rd[n], List.getElem?_eq_getElem hi, List.getElem_mem hn, rfl⟩, rfl⟩
      have hlp := lineP_length l (l[i].name, l[i].rd[n].1)
      have hL1 : 1 ≤ (lineP l (l[i].name, l[i].rd[n].1)).length := by rw [hlp]; exact List.length_pos_iff.2 (ptsOf_ne hx)
      have hLl : (lineP l (l[i].name, l[i].rd[n].1)).length ≤ 1000000 := by have := ptsOf_le (allR l 0) (l[i].name, l[i].rd[n].1); omega
      have hsucc := rowFlags_succ (l := l) (k := k) (i := i) (r := l[i]) hn
      have hbn := hb n (by omega)
      have hbs := hb (n + 1) (by omega)
      rw [hsucc, ← List.append_assoc] at hbs
      rw [hsucc, ← List.append_assoc]
      generalize R ++ rowFlags l k i l[i] n = X at hbn hbs ⊢
      obtain ⟨tk, hline⟩ := r_line (t := t) (x := (l[i].name, l[i].rd[n].1)) hg hl hla (S ++ [Ent.tail X.length 3])
      have hst : stepOf k l[i].rd[n].1 ≤ 10000 := by
        unfold stepOf
        rw [List.getD_eq_getElem?_getD, List.getElem?_eq_getElem (by rw [hk.steps]; omega)]
        exact (possP_get hps (List.getElem_mem _)).2
      have hsk : spikeOf k l[i].rd[n].1 ≤ 10000 := by
        unfold spikeOf
        rw [List.getD_eq_getElem?_getD, List.getElem?_eq_getElem (by rw [hk.spikes]; omega)]
        exact (possP_get hpk (List.getElem_mem _)).2
      have hrej := r_rejected (t := tk) (s := stepOf k l[i].rd[n].1) (p := spikeOf k l[i].rd[n].1) (fun q hq => (hg.line hq).1) (sortT_strict (hg.times _)) hL1 hLl hst hsk (S ++ [Ent.tail X.length 3])
      have hloop := r_loopF (L := lineP l (l[i].name, l[i].rd[n].1)) (s := stepOf k l[i].rd[n].1) (p := spikeOf k l[i].rd[n].1) (c := l[i].rd[n].1) (i := i) (tl := tk) (tb := .none) (R := X) (S := S) (a := i64 (n : Nat)) (b := i64 l[i].rd[n].2) hLl hbn
      have hkf : flagsOf (lineP l (l[i].name, l[i].rd[n].1)) (stepOf k l[i].rd[n].1) (spikeOf k l[i].rd[n].1) l[i].rd[n].1 (lineP l (l[i].name, l[i].rd[n].1)).length = keyFlags l k (l[i].name, l[i].rd[n].1) := rfl
      rw [hkf] at hloop
      generalize hY : X ++ ofRep i (keyFlags l k (l[i].name, l[i].rd[n].1)) = Y at hbs hloop ⊢
      have hnx : nextS S.length (S ++ [Ent.tail X.length 3]).length [.sl (flagRows Y) (.own S.length), .int .i64 ((n : Int) + 1)] (S ++ [Ent.tail Y.length 3]) = some ([.sl (flagRows Y) (.own S.length), .int .i64 ((n : Int) + 1)], S ++ [Ent.tail Y.length 3]) := nextS_eq (by simp)
      simp only [List.getD_cons_zero, List.getD_cons_succ]
      unfold F18_L7
      simp only []
      refine bind_of (by simp [hlt] <;> rfl) ?_
      refine cond_t rfl ?_
      refine bind_of (by exact h1) ?_
      refine bind_of (by simp [loadV_ip] <;> rfl) ?_
      refine bind_of (by simp <;> rfl) ?_
      refine ite_of (by rfl) ?_
      refine bind_of (by rfl) ?_
      refine bind_of (by rfl) ?_
      refine bind_of (by rfl) ?_
      refine bind_of (by rfl) ?_
      refine bind_of (by rfl) ?_
      refine bind_of (by exact hline) ?_
      refine bind_of (by rfl) ?_
      refine bind_of (by rfl) ?_
      refine bind_of (by rfl) ?_
      refine bind_of (by exact g1) ?_
      refine bind_of (by exact g2) ?_
      refine bind_of (by rfl) ?_
      refine bind_of (by rfl) ?_
      refine bind_of (by rfl) ?_
      refine bind_of (by exact g3) ?_
      refine bind_of (by exact g4) ?_
      refine bind_of (by rfl) ?_
      refine bind_of (by exact hrej) ?_
      refine bind_of (by rfl) ?_
      refine bind_of (by
        simp only [pts_length]
        exact hloop) ?_
      simp only [exK_exit, Nat.beq_refl, cond_true]
      refine bind_of (by simp [w1] <;> rfl) ?_
      refine bind_of (by exact hnx) ?_
      rfl)
    (by
      simp only [Nat.zero_add]
      simp [F18_L7])
  have e0 : rowFlags l k i l[i] 0 = [] := rfl
  rw [e0, List.append_nil] at key
  exact key

end Go.Proofs.YtlilahgndpdkfaaDoor

/-
  What the timeline's reference answers.
-/
namespace Go.Proofs.YtlilahgndpdkfaaDoor
open Go Go.Abs

theorem refFlags_mono {l : List Rep} {k : Ctl} : ∀ {m n : Nat}, m ≤ n → (refFlags l k m).length ≤ (refFlags l k n).length := fun {m n} h => by
  induction n with
  | zero => obtain rfl : m = 0 := by omega
            exact Nat.le_refl _
  | succ n ih =>
    by_cases e : m = n + 1
    · subst e; exact Nat.le_refl _
    · refine Nat.le_trans (ih (by omega)) ?_
      unfold refFlags
      rw [List.range_succ, List.flatMap_append, List.length_append]
      omega

theorem rowFlags_mono {l : List Rep} {k : Ctl} {i : Nat} {r : Rep} {n : Nat} (h : n ≤ r.rd.length) : (rowFlags l k i r n).length ≤ (rowFlags l k i r r.rd.length).length := by
  unfold rowFlags
  have : r.rd.take r.rd.length = r.rd.take n ++ (r.rd.take r.rd.length).drop n := by
    conv => lhs; rw [← List.take_append_drop n (r.rd.take r.rd.length)]
    rw [List.take_take, Nat.min_eq_left h]
  rw [this, List.flatMap_append, List.length_append]
  omega

set_option maxHeartbeats 2000000 in
theorem r_loopA {l : List Rep} {t : Tok} {k : Ctl} {S : Store} (hk : k.Fit) (hg : Abs.Good l) (hps : possP k.steps = true) (hpk : possP k.spikes = true) (hl : l.length ≤ 1000000) (hla : (allR l 0).length ≤ 1000000) (hB : (refFlags l k l.length).length ≤ 1000000) :
    iter (fun st => F18_L6 call S.length (.sl (reps l) t) (.ip (ctlC k) 0) (.sl (reps l) t) (i64 l.length) (st.1.getD 0 .u) (st.1.getD 1 .u) st.2) ([.sl [] (.own S.length), i64 0], S ++ [Ent.tail 0 3]) =
      some (.exit 10, [.sl (flagRows (refFlags l k l.length)) (.own S.length)], S ++ [Ent.tail (refFlags l k l.length).length 3]) := by
  have key := iter_run (step := fun st => F18_L6 call S.length (.sl (reps l) t) (.ip (ctlC k) 0) (.sl (reps l) t) (i64 l.length) (st.1.getD 0 .u) (st.1.getD 1 .u) st.2)
    (fun i => ([.sl (flagRows (refFlags l k i)) (.own S.length), i64 (i : Nat)], S ++ [Ent.tail (refFlags l k i).length 3])) (r := (.exit 10, [.sl (flagRows (refFlags l k l.length)) (.own S.length)], S ++ [Ent.tail (refFlags l k l.length).length 3])) l.length 0
    (fun i _ hi => by
      have hi : i < l.length := by omega
      have hlt : (i : Int) < (l.length : Int) := by omega
      have w1 : IntKind.i64.wrap ((i : Int) + 1) = (i : Int) + 1 := wrap_in (by unfold In64; omega)
      have h1 : indexAV 8 none (.sl (reps l) t) (.int .i64 (i : Int)) = some (.ip (repR l[i]) 0) := by simp [indexAV, at_reps hi]
      have hsucc := refFlags_succ (k := k) hi
      have hloop := r_loopR (t := t) (k := k) (R := refFlags l k i) (S := S) (a := i64 (i : Nat)) hk hg hps hpk hl hla hi (fun n hn => by
        have e1 := rowFlags_mono (l := l) (k := k) (i := i) hn
        have e2 := refFlags_mono (l := l) (k := k) (m := i + 1) (n := l.length) (by omega)
        rw [hsucc, List.length_append] at e2
        rw [List.length_append]
        omega)
      rw [← hsucc] at hloop
      rw [hsucc] at hloop ⊢
      rw [← hsucc] at hloop ⊢
      generalize refFlags l k i = X at hloop ⊢
      generalize refFlags l k (i + 1) = Y at hloop ⊢
      have hnx : nextS S.length (S ++ [Ent.tail X.length 3]).length [.sl (flagRows Y) (.own S.length), .int .i64 ((i : Int) + 1)] (S ++ [Ent.tail Y.length 3]) = some ([.sl (flagRows Y) (.own S.length), .int .i64 ((i : Int) + 1)], S ++ [Ent.tail Y.length 3]) := nextS_eq (by simp)
      simp only [List.getD_cons_zero, List.getD_cons_succ]
      unfold F18_L6
      simp only []
      refine bind_of (by simp [hlt] <;> rfl) ?_
      refine cond_t rfl ?_
      refine bind_of (by exact h1) ?_
      refine bind_of (a := .agg (repR l[i])) (by simp [repR]) ?_
      refine bind_of (by exact imms_repR) ?_
      refine ite_of (by rfl) ?_
      refine bind_of (by rfl) ?_
      refine bind_of (by rfl) ?_
      refine bind_of (by rfl) ?_
      refine bind_of (by first | exact hloop | (simp only [rds_length]; exact hloop)) ?_
      simp only [exK_exit, Nat.beq_refl, cond_true]
      refine bind_of (by simp [w1] <;> rfl) ?_
      refine bind_of (by exact hnx) ?_
      rfl)
    (by
      simp only [Nat.zero_add]
      simp [F18_L6])
  exact key

theorem r_CheckOK {l : List Rep} {t : Tok} {k : Ctl} (hk : k.Fit) (hl : l.length ≤ 1000000) (hr : ∀ r ∈ l, r.rd.length ≤ 1000000) (hla : (allR l 0).length ≤ 1000000) (hB : (refFlags l k l.length).length ≤ 1000000) (he : examP l k = 0) (S : Store) :
    call 18 [.sl (reps l) t, .agg (ctlC k)] S = some (.tup [.sl (flagRows (refFlags l k l.length)) .none, i64 0], S) := by
  obtain ⟨hg, hps, hpk⟩ := examP_zero he
  rw [k18]
  unfold F18
  have himm : imms (ctlC k) = some (ctlC k) := by
    have := imms_i64s (k.hops :: (k.steps ++ k.spikes ++ k.rest))
    simpa [ctlC] using this
  have e1 := r_loopP hk (.sl (reps l) t) S
  have e2 := r_loopV (t := t) hl hr (.ip (ctlC k) 0) S
  have e3 := r_loopT (t := t) hl (.ip (ctlC k) 0) S
  have e4 := r_loopD (t := t) hl (.ip (ctlC k) 0) S
  have e5 := r_loopA (t := t) (S := S) hk hg hps hpk hl hla hB
  rw [hps, hpk] at e1
  rw [firstP_zero.2 hg.valid] at e2
  rw [if_pos (List.all_eq_true.2 fun r h => by have := hg.time r h; simpa [inP] using this)] at e3
  rw [if_neg (by simpa [twiceP] using hg.once)] at e4
  refine bind_of (by simp [himm] <;> rfl) ?_
  refine bind_of (by exact e1) ?_
  simp only [Bool.and_self, if_true, exK_exit, Nat.beq_refl, cond_true]
  refine bind_of (by simp <;> rfl) ?_
  refine bind_of (by first | exact e2 | (simp only [reps_length]; exact e2)) ?_
  simp only [if_true, exK_exit, Nat.beq_refl, cond_true]
  refine bind_of (by simp <;> rfl) ?_
  refine bind_of (by first | exact e3 | (simp only [reps_length]; exact e3)) ?_
  simp only [exK_exit, Nat.beq_refl, cond_true]
  refine bind_of (by simp <;> rfl) ?_
  refine bind_of (by exact e4) ?_
  simp only [exK_exit, Nat.beq_refl, cond_true]
  refine bind_of (by rfl) ?_
  refine bind_of (by simp <;> rfl) ?_
  refine bind_of (by exact e5) ?_
  simp only [exK_exit, Nat.beq_refl, cond_true, List.getD_cons_zero]
  have hb : Nat.blt S.length S.length = false := blt_false (Nat.le_refl _)
  rw [finish_eq (vs' := [.sl (flagRows (refFlags l k l.length)) .none, i64 0]) (by simp only [fins, fin1, hb, cond_false, Option.bind_some]) (by simp [belows, below])]
  simp

theorem r_CheckErr {l : List Rep} {t : Tok} {k : Ctl} (hk : k.Fit) (hl : l.length ≤ 1000000) (hr : ∀ r ∈ l, r.rd.length ≤ 1000000) (he : examP l k ≠ 0) (S : Store) :
    call 18 [.sl (reps l) t, .agg (ctlC k)] S = some (.tup [.sl [] .full, i64 (examP l k)], S) := by
  rw [k18]
  unfold F18
  have himm : imms (ctlC k) = some (ctlC k) := by
    have := imms_i64s (k.hops :: (k.steps ++ k.spikes ++ k.rest))
    simpa [ctlC] using this
  have e1 := r_loopP hk (.sl (reps l) t) S
  have e2 := r_loopV (t := t) hl hr (.ip (ctlC k) 0) S
  have e3 := r_loopT (t := t) hl (.ip (ctlC k) 0) S
  have e4 := r_loopD (t := t) hl (.ip (ctlC k) 0) S
  unfold examP at he ⊢
  refine bind_of (by simp [himm] <;> rfl) ?_
  refine bind_of (by exact e1) ?_
  by_cases hp : (possP k.steps && possP k.spikes) = true
  · rw [if_pos hp] at he ⊢
    simp only [hp, if_true, exK_exit, Nat.beq_refl, cond_true]
    refine bind_of (by simp <;> rfl) ?_
    refine bind_of (by first | exact e2 | (simp only [reps_length]; exact e2)) ?_
    by_cases hf : firstP l = 0
    · rw [if_pos hf] at he ⊢
      simp only [hf, if_true, exK_exit, Nat.beq_refl, cond_true]
      refine bind_of (by simp <;> rfl) ?_
      refine bind_of (by first | exact e3 | (simp only [reps_length]; exact e3)) ?_
      by_cases ht : (l.all fun r => inP r.time) = true
      · rw [if_pos ht] at he ⊢
        simp only [ht, if_true, exK_exit, Nat.beq_refl, cond_true]
        refine bind_of (by simp <;> rfl) ?_
        refine bind_of (by exact e4) ?_
        by_cases hd : twiceP l = true
        · rw [if_pos hd]
          simp only [hd, if_true, exK_ret]
          simp [finish]
        · rw [if_neg hd] at he
          exact absurd rfl he
      · rw [if_neg ht]
        simp only [ht, if_false, exK_ret, Bool.false_eq_true]
        simp [finish]
    · rw [if_neg hf]
      simp only [hf, if_false, exK_ret]
      simp [finish]
  · rw [if_neg hp]
    simp only [hp, if_false, exK_ret, Bool.false_eq_true]
    simp [finish]

end Go.Proofs.YtlilahgndpdkfaaDoor

/-
  Check and its reference answer the same.
-/
namespace Go.Proofs.YtlilahgndpdkfaaDoor
open Go Go.Abs

def flagsP (l : List Rep) (k : Ctl) : List (Int × Int) := if examP l k = 0 then refFlags l k l.length else []

theorem refFlags_length {l : List Rep} {k : Ctl} (h : Abs.Good l) : (refFlags l k l.length).length ≤ (allR l 0).length := by
  rw [(refFlags_perm h).length_eq]
  have h1 := seen_flags_le (d := allR l 0) (seenK ((allR l 0).map (·.1))) (seenK_nodup _)
  refine Nat.le_trans ?_ h1
  generalize seenK ((allR l 0).map (·.1)) = K
  induction K with
  | nil => simp
  | cons x K ih =>
    simp only [List.flatMap_cons, List.length_append, List.map_cons, List.sum_cons]
    have := keyFlags_le (l := l) (k := k) (x := x)
    omega

/-- Few reports with few readings. -/
structure Few (l : List Rep) : Prop where
  len : l.length ≤ 1000
  rd : ∀ r ∈ l, r.rd.length ≤ 1000

theorem Few.all {l : List Rep} (h : Few l) : (allR l 0).length ≤ 1000000 := by
  have := allR_length_le l 0 h.rd
  have := Nat.mul_le_mul_right 1000 h.len
  omega

theorem s_Check {l : List Rep} {t : Tok} {k : Ctl} (hk : k.Fit) (hf : Few l) (S : Store) : ∃ u, call 17 [.sl (reps l) t, .agg (ctlC k)] S = some (.tup [.sl (flagRows (flagsP l k)) u, i64 (examP l k)], S) := by
  have hl := hf.len
  by_cases he : examP l k = 0
  · have hg := (examP_zero he).1
    have := s_CheckOK (t := t) hk (by omega) hf.all he (refFlags_sorted hg) (refFlags_perm hg) S
    refine ⟨if flagRows (refFlags l k l.length) = [] then .full else .none, ?_⟩
    rw [this, he]
    unfold flagsP
    rw [if_pos he]
  · have := s_CheckErr (t := t) hk (by omega) (fun r hr => Nat.le_trans (hf.rd r hr) (by omega)) he S
    refine ⟨.full, ?_⟩
    rw [this]
    unfold flagsP
    rw [if_neg he]
    rfl

theorem r_Check {l : List Rep} {t : Tok} {k : Ctl} (hk : k.Fit) (hf : Few l) (S : Store) : ∃ u, call 18 [.sl (reps l) t, .agg (ctlC k)] S = some (.tup [.sl (flagRows (flagsP l k)) u, i64 (examP l k)], S) := by
  have hl := hf.len
  by_cases he : examP l k = 0
  · have hg := (examP_zero he).1
    have h1 := refFlags_length (k := k) hg
    have h2 := hf.all
    have := r_CheckOK (t := t) hk (by omega) (fun r hr => Nat.le_trans (hf.rd r hr) (by omega)) hf.all (by omega) he S
    refine ⟨.none, ?_⟩
    rw [this, he]
    unfold flagsP
    rw [if_pos he]
  · have := r_CheckErr (t := t) hk (by omega) (fun r hr => Nat.le_trans (hf.rd r hr) (by omega)) he S
    refine ⟨.full, ?_⟩
    rw [this]
    unfold flagsP
    rw [if_neg he]
    rfl

end Go.Proofs.YtlilahgndpdkfaaDoor

/-
  The reader of numbers, as_ the makers of given data use it.
-/
namespace Go.Proofs.YtlilahgndpdkfaaDoor
open Go Go.Abs

/-- The store, its reader at a, with entries of the call's own. -/
abbrev Sr (S : Store) (i : Nat) (L : List Int) (a : Nat) (es : Store) : Store := Stt S i (srcE L a) es

structure Sc (S : Store) (i : Nat) (L : List Int) (a : Nat) : Prop where
  lt : i < S.length
  le : a ≤ L.length
  len : L.length ≤ 2000
  num : ∀ n ∈ L, In64 n

section
variable {S : Store} {i : Nat} {L : List Int} {a : Nat} {es : Store}
theorem Sc.src (h : Sc S i L a) : Src (Sr S i L a es) i L a := ⟨Stt.src h.lt, h.le, h.len, h.num⟩
theorem Sc.to (h : Sc S i L a) {b : Nat} (hb : b ≤ L.length) : Sc S i L b := ⟨h.lt, hb, h.len, h.num⟩
theorem Sc.flat (h : Sc S i L a) {b : Nat} : Sc S i L b → Sc (Sr S i L a es) i L b := fun h2 => ⟨by rw [Stt.length]; have := h.lt; omega, h2.le, h2.len, h2.num⟩
theorem Sc.back (h : Sc S i L a) {b : Nat} : Sc (Sr S i L a es) i L b → Sc S i L b := fun h2 => ⟨h.lt, h2.le, h2.len, h2.num⟩
theorem Sc.of (h : Src S i L a) : Sc S i L a := ⟨h.lt, h.le, h.len, h.num⟩

/-- What a maker of data answers: a value of which Q is so, and the reader read on. -/
def Mk (f : Nat) (args : List AV) (S : Store) (i : Nat) (L : List Int) (a : Nat) (Q : AV → Prop) : Prop :=
  Ev (call f args (Sr S i L a [])) fun r => ∃ v a', Sc S i L a' ∧ Q v ∧ r = (v, Sr S i L a' [])

/-- Wherever the reader stands. -/
def Maker (f : Nat) (args : List AV) (i : Nat) (Q : AV → Prop) : Prop := ∀ (S : Store) (L : List Int) (a : Nat), Sc S i L a → Mk f args S i L a Q

theorem Maker.at {f : Nat} {args : List AV} {Q : AV → Prop} (h : Maker f args i Q) (hs : Sc S i L a) : Ev (call f args (Sr S i L a es)) fun r => ∃ v a', Sc S i L a' ∧ Q v ∧ r = (v, Sr S i L a' es) := by
  have h1 := h (Sr S i L a es) L a (hs.flat hs)
  have e1 : Sr (Sr S i L a es) i L a [] = Sr S i L a es := Stt.self (Stt.src hs.lt)
  unfold Mk at h1
  rw [e1] at h1
  refine h1.mono ?_
  rintro _ ⟨v, a', h2, h3, rfl⟩
  refine ⟨v, a', hs.back h2, h3, ?_⟩
  have : Sr (Sr S i L a es) i L a' [] = Sr S i L a' es := by
    show Stt (Stt S i _ es) i _ [] = _
    rw [Stt.flat hs.lt, List.append_nil]
  rw [this]

theorem e_Raw (hs : Sc S i L a) : Ev (call 31 [.ptr i 0] (Sr S i L a es)) fun r => ∃ v a', Sc S i L a' ∧ In64 v ∧ r = (i64 v, Sr S i L a' es) :=
  .of (s_Raw hs.src) ⟨_, _, hs.to (rawP_le hs.le), rawP_in hs.num, by rw [show (Sr S i L a es).set i _ = _ from Stt.set_src hs.lt]⟩

theorem e_N (hs : Sc S i L a) {n : Int} (h1 : 1 ≤ n) (h2 : n ≤ 9223372036854775807) : Ev (call 15 [.ptr i 0, i64 n] (Sr S i L a es)) fun r => ∃ v a', Sc S i L a' ∧ 0 ≤ v ∧ v < n ∧ r = (i64 v, Sr S i L a' es) := by
  obtain ⟨v, a', h3, h4, h5, h6⟩ := n_N (hs.src (es := es)) (n := n) (by unfold In64; omega) h1
  exact .of h6 ⟨v, a', hs.to h5, h3, h4, by rw [show (Sr S i L a es).set i _ = _ from Stt.set_src hs.lt]⟩

theorem e_Range (hs : Sc S i L a) {lo hi : Int} (h0 : lo ≤ hi) (h1 : -4611686018427387904 ≤ lo) (h2 : hi ≤ 4611686018427387902) : Ev (call 23 [.ptr i 0, i64 lo, i64 hi] (Sr S i L a es)) fun r => ∃ v a', Sc S i L a' ∧ lo ≤ v ∧ v ≤ hi ∧ r = (i64 v, Sr S i L a' es) := by
  obtain ⟨v, a', h3, h4, h5, h6⟩ := n_Range (hs.src (es := es)) h0 h1 h2
  exact .of h6 ⟨v, a', hs.to h5, h3, h4, by rw [show (Sr S i L a es).set i _ = _ from Stt.set_src hs.lt]⟩

theorem ints_of : ∀ {rows : List (List AV)}, (∀ x ∈ rows, ∃ n : Int, x = [i64 n]) → ∃ l, rows = ints l
  | [], _ => ⟨[], rfl⟩
  | x :: rows, h => by
    obtain ⟨n, rfl⟩ := h x (by simp)
    obtain ⟨l, hl⟩ := ints_of (rows := rows) fun y hy => h y (by simp [hy])
    exact ⟨n :: l, by rw [hl]; rfl⟩
theorem strs_of : ∀ {rows : List (List AV)}, (∀ x ∈ rows, ∃ s, x = [AV.str s]) → ∃ l, rows = strs l
  | [], _ => ⟨[], rfl⟩
  | x :: rows, h => by
    obtain ⟨n, rfl⟩ := h x (by simp)
    obtain ⟨l, hl⟩ := strs_of (rows := rows) fun y hy => h y (by simp [hy])
    exact ⟨n :: l, by rw [hl]; rfl⟩

theorem e_Pick (hs : Sc S i L a) {rows : List (List AV)} {t : Tok} (h0 : rows ≠ []) (h1 : rows.length ≤ 2000000) (h2 : ∀ x ∈ rows, ∃ n : Int, x = [i64 n]) : Ev (call 29 [.ptr i 0, .sl rows t] (Sr S i L a es)) fun r => ∃ v a', Sc S i L a' ∧ [i64 v] ∈ rows ∧ r = (i64 v, Sr S i L a' es) := by
  obtain ⟨l, rfl⟩ := ints_of h2
  obtain ⟨v, a', h3, h5, h6⟩ := n_Pick (hs.src (es := es)) (l := l) (t := t) (by rintro rfl; exact h0 rfl) (by simpa using h1)
  exact .of h6 ⟨v, a', hs.to h5, List.mem_map.2 ⟨v, h3, rfl⟩, by rw [show (Sr S i L a es).set i _ = _ from Stt.set_src hs.lt]⟩

theorem e_Text (hs : Sc S i L a) {rows : List (List AV)} {t : Tok} (h0 : rows ≠ []) (h1 : rows.length ≤ 2000000) (h2 : ∀ x ∈ rows, ∃ s, x = [AV.str s]) : Ev (call 28 [.ptr i 0, .sl rows t] (Sr S i L a es)) fun r => ∃ v a', Sc S i L a' ∧ [.str v] ∈ rows ∧ r = (.str v, Sr S i L a' es) := by
  obtain ⟨l, rfl⟩ := strs_of h2
  obtain ⟨v, a', h3, h5, h6⟩ := n_Text (hs.src (es := es)) (l := l) (t := t) (by rintro rfl; exact h0 rfl) (by simpa using h1)
  exact .of h6 ⟨v, a', hs.to h5, List.mem_map.2 ⟨v, h3, rfl⟩, by rw [show (Sr S i L a es).set i _ = _ from Stt.set_src hs.lt]⟩

theorem e_only {m : Option (AV × Store)} {P : AV × Store → Prop} {rest : List AV} {j o : Nat} (hi : i < S.length) (hj : j ≠ i) (h : Ev m P) (hP : ∀ r, P r → ∃ v a', r = (v, Sr S i L a' es)) : Ev (m.bind (onlyV (.ptr i 0 :: rest) [.ptr j o] (Sr S i L a es))) P := by
  refine h.bind fun r hr => ?_
  obtain ⟨v, a', rfl⟩ := hP r hr
  exact .of (Stt.only hi hj) hr

theorem e_Mod {x n : Int} (h1 : 1 ≤ n) (h2 : n ≤ 9223372036854775807) {S : Store} : Ev (call 22 [i64 x, i64 n] S) fun r => ∃ v, 0 ≤ v ∧ v < n ∧ r = (i64 v, S) :=
  .of (s_Mod (by unfold In64; omega) S) ⟨_, (modP_range h1).1, (modP_range h1).2, rfl⟩
end
end Go.Proofs.YtlilahgndpdkfaaDoor

/-
  What the makers of given data answer: the reader, minutes, parameters, series.
-/
namespace Go.Proofs.YtlilahgndpdkfaaDoor
open Go Go.Abs

theorem ints_take (L : List Int) (n : Nat) : (ints L).take n = ints (L.take n) := by simp [ints]

theorem s_New {L : List Int} {t : Tok} (S : Store) : call 11 [.sl (ints L) t] S = some (.ptr S.length 0, S ++ [srcE (L.take 2000) 0]) := by
  rw [k11]
  unfold F11
  have h1 : min2 (L.length : Int) 2000 = ((min 2000 L.length : Nat) : Int) := by unfold min2; split <;> omega
  have h2 : (ints L).take (min 2000 L.length) = ints (L.take 2000) := by
    rw [ints_take]; congr 1; exact List.take_eq_take_iff.2 (by omega)
  have h3 : (ints L).length = L.length := by simp [ints]
  have h4 : szOK 1 (ints L) = true := by cases L <;> rfl
  have h5 : sliceV 1 (.sl (ints L) t) none (some (i64 ((min 2000 L.length : Nat) : Int))) none = some (.sl (ints (L.take 2000)) .none) := by
    simp only [sliceV, bound, i64, h3]
    rw [if_pos (by omega)]
    simp only [Option.bind_some, Int.toNat_natCast, h2, mxFits, h4, Bool.true_and, cond_true, List.drop_zero, sliceTok]
  simp only [List.getD_cons_zero, lenV, h3, Option.bind_some, i64, minmaxV, minmaxGo, if_true, cond_false, h1]
  simp only [i64] at h5
  rw [h5]
  simp [srcE, finish, noOsl]

theorem g_Minute (i : Nat) : Maker 13 [.ptr i 0] i fun v => ∃ m : Int, v = i64 m ∧ 0 ≤ m ∧ m ≤ 52595999 := by
  intro S L a hs
  unfold Mk
  rw [k13]
  unfold F13
  simp only [Stt.length, List.length_nil, Nat.add_zero]
  repeat (first
    | refine Ev.fin (by simp [] <;> rfl) (by simp []) ?_
    | refine Ev.t (by rfl) ?_
    | refine Ev.f (by rfl) ?_
    | refine Ev.ite (by first | rfl | assumption) ?_
    | refine Ev.to (by simp (disch := omega) [-loadV, -storeV, -Int.natCast_add, loadV_ip] <;> rfl) ?_)
  refine Ev.bind (e_N (by assumption) (by omega) (by omega)) ?_
  rintro _ ⟨v1, a1, h1, _, _, rfl⟩
  try dsimp only
  repeat (first
    | refine Ev.fin (by simp [] <;> rfl) (by simp []) ?_
    | refine Ev.t (by rfl) ?_
    | refine Ev.f (by rfl) ?_
    | refine Ev.ite (by first | rfl | assumption) ?_
    | refine Ev.to (by simp (disch := omega) [-loadV, -storeV, -Int.natCast_add, loadV_ip] <;> rfl) ?_)
  refine Ev.beq (fun _ => ?_) (fun _ => ?_)
  · skip
    repeat (first
      | refine Ev.fin (by simp [] <;> rfl) (by simp []) ?_
      | refine Ev.t (by rfl) ?_
      | refine Ev.f (by rfl) ?_
      | refine Ev.ite (by first | rfl | assumption) ?_
      | refine Ev.to (by simp (disch := omega) [-loadV, -storeV, -Int.natCast_add, loadV_ip] <;> rfl) ?_)
    refine Ev.bind (e_Raw (by assumption)) ?_
    rintro _ ⟨v2, a2, h2, r2, rfl⟩
    try dsimp only
    repeat (first
      | refine Ev.fin (by simp [] <;> rfl) (by simp []) ?_
      | refine Ev.t (by rfl) ?_
      | refine Ev.f (by rfl) ?_
      | refine Ev.ite (by first | rfl | assumption) ?_
      | refine Ev.to (by simp (disch := omega) [-loadV, -storeV, -Int.natCast_add, loadV_ip] <;> rfl) ?_)
    refine Ev.bind (e_Raw (by assumption)) ?_
    rintro _ ⟨v3, a3, h3, r3, rfl⟩
    try dsimp only
    repeat (first
      | refine Ev.fin (by simp [] <;> rfl) (by simp []) ?_
      | refine Ev.t (by rfl) ?_
      | refine Ev.f (by rfl) ?_
      | refine Ev.ite (by first | rfl | assumption) ?_
      | refine Ev.to (by simp (disch := omega) [-loadV, -storeV, -Int.natCast_add, loadV_ip] <;> rfl) ?_)
    refine Ev.bind (e_Mod (by omega) (by omega)) ?_
    rintro _ ⟨v4, _, _, rfl⟩
    try dsimp only
    repeat (first
      | refine Ev.fin (by simp [] <;> rfl) (by simp []) ?_
      | refine Ev.t (by rfl) ?_
      | refine Ev.f (by rfl) ?_
      | refine Ev.ite (by first | rfl | assumption) ?_
      | refine Ev.to (by simp (disch := omega) [-loadV, -storeV, -Int.natCast_add, loadV_ip] <;> rfl) ?_)
    exact ⟨_, _, h3, ⟨_, rfl, by omega, by omega⟩, rfl⟩
  · skip
    repeat (first
      | refine Ev.fin (by simp [] <;> rfl) (by simp []) ?_
      | refine Ev.t (by rfl) ?_
      | refine Ev.f (by rfl) ?_
      | refine Ev.ite (by first | rfl | assumption) ?_
      | refine Ev.to (by simp (disch := omega) [-loadV, -storeV, -Int.natCast_add, loadV_ip] <;> rfl) ?_)
    refine Ev.beq (fun _ => ?_) (fun _ => ?_)
    · skip
      repeat (first
        | refine Ev.fin (by simp [] <;> rfl) (by simp []) ?_
        | refine Ev.t (by rfl) ?_
        | refine Ev.f (by rfl) ?_
        | refine Ev.ite (by first | rfl | assumption) ?_
        | refine Ev.to (by simp (disch := omega) [-loadV, -storeV, -Int.natCast_add, loadV_ip] <;> rfl) ?_)
      refine Ev.bind (e_Pick (by assumption) (by simp) (by simp) (by simp)) ?_
      rintro _ ⟨v2, a2, h2, r2, rfl⟩
      try dsimp only
      repeat (first
        | refine Ev.fin (by simp [] <;> rfl) (by simp []) ?_
        | refine Ev.t (by rfl) ?_
        | refine Ev.f (by rfl) ?_
        | refine Ev.ite (by first | rfl | assumption) ?_
        | refine Ev.to (by simp (disch := omega) [-loadV, -storeV, -Int.natCast_add, loadV_ip] <;> rfl) ?_)
      exact ⟨_, _, h2, ⟨_, rfl, by simp at r2; omega, by simp at r2; omega⟩, rfl⟩
    · skip
      repeat (first
        | refine Ev.fin (by simp [] <;> rfl) (by simp []) ?_
        | refine Ev.t (by rfl) ?_
        | refine Ev.f (by rfl) ?_
        | refine Ev.ite (by first | rfl | assumption) ?_
        | refine Ev.to (by simp (disch := omega) [-loadV, -storeV, -Int.natCast_add, loadV_ip] <;> rfl) ?_)
      refine Ev.bind (e_N (by assumption) (by omega) (by omega)) ?_
      rintro _ ⟨v2, a2, h2, _, _, rfl⟩
      try dsimp only
      repeat (first
        | refine Ev.fin (by simp [] <;> rfl) (by simp []) ?_
        | refine Ev.t (by rfl) ?_
        | refine Ev.f (by rfl) ?_
        | refine Ev.ite (by first | rfl | assumption) ?_
        | refine Ev.to (by simp (disch := omega) [-loadV, -storeV, -Int.natCast_add, loadV_ip] <;> rfl) ?_)
      exact ⟨_, _, h2, ⟨_, rfl, by omega, by omega⟩, rfl⟩

/-! ### Parameters -/

def Ctl.step (k : Ctl) (c : Nat) (v : Int) : Ctl := { k with steps := k.steps.set c v }
def Ctl.spike (k : Ctl) (c : Nat) (v : Int) : Ctl := { k with spikes := k.spikes.set c v }
def Ctl.more (k : Ctl) (c : Nat) (v : Int) : Ctl := { k with rest := k.rest.set c v }

theorem ctl_step {k : Ctl} (hk : k.Fit) {c : Nat} (hc : c < 12) (v : Int) : (ctlC k).set (1 + c) (i64 v) = ctlC (Ctl.step k c v) := by
  have := hk.steps
  rw [Nat.add_comm]
  simp only [ctlC, Ctl.step, List.set_cons_succ, List.map_append, List.append_assoc]
  rw [List.set_append_left _ _ (by simp; omega), ← List.map_set]
theorem ctl_spike {k : Ctl} (hk : k.Fit) {c : Nat} (hc : c < 12) (v : Int) : (ctlC k).set (13 + c) (i64 v) = ctlC (Ctl.spike k c v) := by
  have h1 := hk.steps
  have h2 := hk.spikes
  rw [show 13 + c = (12 + c) + 1 by omega]
  simp only [ctlC, Ctl.spike, List.set_cons_succ, List.map_append, List.append_assoc]
  rw [List.set_append_right _ _ (by simp; omega), List.set_append_left _ _ (by simp; omega)]
  simp [h1, List.map_set]
theorem ctl_more {k : Ctl} (hk : k.Fit) {c : Nat} (hc : c < 12) (v : Int) : (ctlC k).set (26 + c) (i64 v) = ctlC (Ctl.more k (1 + c) v) := by
  have h1 := hk.steps
  have h2 := hk.spikes
  have h3 := hk.rest
  rw [show 26 + c = (25 + c) + 1 by omega]
  simp only [ctlC, Ctl.more, List.set_cons_succ, List.map_append, List.append_assoc]
  rw [List.set_append_right _ _ (by simp; omega), List.set_append_right _ _ (by simp; omega)]
  have : 25 + c - 12 - 12 = 1 + c := by omega
  simp [h1, h2, List.map_set, this]
theorem ctl_length {k : Ctl} (hk : k.Fit) : (ctlC k).length = 41 := by simp [ctlC, hk.steps, hk.spikes, hk.rest]
theorem Ctl.step_fit {k : Ctl} (hk : k.Fit) (c : Nat) (v : Int) : (Ctl.step k c v).Fit := ⟨by simp [Ctl.step, hk.steps], hk.spikes, hk.rest⟩
theorem Ctl.spike_fit {k : Ctl} (hk : k.Fit) (c : Nat) (v : Int) : (Ctl.spike k c v).Fit := ⟨hk.steps, by simp [Ctl.spike, hk.spikes], hk.rest⟩
theorem Ctl.more_fit {k : Ctl} (hk : k.Fit) (c : Nat) (v : Int) : (Ctl.more k c v).Fit := ⟨hk.steps, hk.spikes, by simp [Ctl.more, hk.rest]⟩

theorem poss_set {l : List Int} {c : Nat} {v : Int} (h : possP l = true) (h0 : 0 ≤ v) (h1 : v ≤ 10000) : possP (l.set c v) = true := by
  unfold possP at *
  rw [Bool.not_eq_true', List.any_eq_false] at *
  intro x hx
  rcases List.mem_or_eq_of_mem_set hx with hx | rfl
  · exact h x hx
  · simp; omega

/-- Parameters whose steps and spikes may be. -/
structure CtlOk (k : Ctl) : Prop where
  fit : k.Fit
  steps : possP k.steps = true
  spikes : possP k.spikes = true

theorem ctl_put {S : Store} {i : Nat} {L : List Int} {a o : Nat} {z : Ent} {k k' : Ctl} (hk : k.Fit) (ho : o < 41) {v : Int} (h : (ctlC k).set o (i64 v) = ctlC k') :
    storeV S.length 1 (.ptr (S.length + 1) o) (i64 v) (Sr S i L a [z, .obj (ctlC k)]) = some (Sr S i L a [z, .obj (ctlC k')]) := by
  have := Stt.store (S := S) (i := i) (e := srcE L a) (es := [z, .obj (ctlC k)]) (k := 1) (o := o) (n := 1) (v := i64 v) (cs := ctlC k) (vs := [i64 v]) rfl rfl rfl (by rw [ctl_length hk]; omega)
  rw [this]
  simp only [setC, h, List.set_cons_succ, List.set_cons_zero]

theorem imms_ctl (k : Ctl) : imms (ctlC k) = some (ctlC k) := by
  have := imms_i64s (k.hops :: (k.steps ++ k.spikes ++ k.rest))
  simpa [ctlC] using this
theorem cells1_i64s (l : List Int) : cells1 (l.map i64) = some (l.map i64) := by
  induction l with
  | nil => rfl
  | cons a l ih => simp [ih]
theorem cells1_ctl (k : Ctl) : cells1 (ctlC k) = some (ctlC k) := by
  have := cells1_i64s (k.hops :: (k.steps ++ k.spikes ++ k.rest))
  simpa [ctlC] using this

theorem idx12 (j o : Nat) {c : Nat} (hc : c < 12) : indexAV 1 (some 12) (.ptr j o) (.int .i64 (c : Int)) = some (.ptr j (o + c)) := by
  simp only [indexAV]
  rw [if_pos (by omega)]
  simp

set_option maxHeartbeats 2000000 in
theorem g_ControlL {S : Store} {i : Nat} {L : List Int} {z : Ent} (st : List AV × Store) (c a : Nat) (k : Ctl) (e : st = ([i64 (c : Int)], Sr S i L a [z, .obj (ctlC k)])) (hs : Sc S i L a) (hk : CtlOk k) (hc : c ≤ 12) :
    Ev (F14_L1 call S.length (.ptr i 0) .u (.ptr (S.length + 1) 0) (st.1.getD 0 .u) st.2) fun x => match x with
      | .inr r => ∃ a k, Sc S i L a ∧ CtlOk k ∧ r = (.exit 0, [], Sr S i L a [z, .obj (ctlC k)])
      | .inl s' => c + 1 ≤ 12 ∧ ∃ a k, Sc S i L a ∧ CtlOk k ∧ s' = ([i64 ((c + 1 : Nat) : Int)], Sr S i L a [z, .obj (ctlC k)]) := by
  subst e
  unfold F14_L1
  simp only [List.getD_cons_zero, Stt.length, List.length_cons, List.length_nil]
  by_cases h : (c : Int) ≤ 11
  · have hc : c < 12 := by omega
    have x1 := idx12 (S.length + 1) 1 hc
    have x2 := idx12 (S.length + 1) 13 hc
    have x3 := idx12 (S.length + 1) 26 hc
    have w1 : IntKind.i64.wrap ((c : Int) + 1) = ((c + 1 : Nat) : Int) := by rw [wrap_in (by unfold In64; omega)]; omega
    repeat (first
      | refine Ev.fin (by simp [h] <;> rfl) (by simp [h]) ?_
      | refine Ev.t (by rfl) ?_
      | refine Ev.f (by rfl) ?_
      | refine Ev.ite (by first | rfl | assumption) ?_
      | refine Ev.to (by simp (disch := omega) [-loadV, -storeV, -Int.natCast_add, loadV_ip, h] <;> rfl) ?_)
    refine Ev.bind (e_Pick (by assumption) (by simp) (by simp) (by simp)) ?_
    rintro _ ⟨v1, a1, h1, r1, rfl⟩
    try dsimp only
    have hk1 := Ctl.step_fit hk.fit c v1
    have s1 := ctl_put (S := S) (i := i) (L := L) (a := a1) (z := z) hk.fit (by omega) (ctl_step hk.fit hc v1)
    have p1 := poss_set (c := c) (v := v1) hk.steps (by simp at r1; omega) (by simp at r1; omega)
    repeat (first
      | refine Ev.fin (by simp [x1, s1] <;> rfl) (by simp [x1, s1]) ?_
      | refine Ev.t (by rfl) ?_
      | refine Ev.f (by rfl) ?_
      | refine Ev.ite (by first | rfl | assumption) ?_
      | refine Ev.to (by simp (disch := omega) [-loadV, -storeV, -Int.natCast_add, loadV_ip, x1, s1] <;> rfl) ?_)
    refine Ev.bind (e_Pick (by assumption) (by simp) (by simp) (by simp)) ?_
    rintro _ ⟨v2, a2, h2, r2, rfl⟩
    try dsimp only
    have hk2 := Ctl.spike_fit hk1 c v2
    have s2 := ctl_put (S := S) (i := i) (L := L) (a := a2) (z := z) hk1 (by omega) (ctl_spike hk1 hc v2)
    have p2 := poss_set (c := c) (v := v2) hk.spikes (by simp at r2; omega) (by simp at r2; omega)
    repeat (first
      | refine Ev.fin (by simp [x2, s2] <;> rfl) (by simp [x2, s2]) ?_
      | refine Ev.t (by rfl) ?_
      | refine Ev.f (by rfl) ?_
      | refine Ev.ite (by first | rfl | assumption) ?_
      | refine Ev.to (by simp (disch := omega) [-loadV, -storeV, -Int.natCast_add, loadV_ip, x2, s2] <;> rfl) ?_)
    refine Ev.bind (e_Pick (by assumption) (by simp) (by simp) (by simp)) ?_
    rintro _ ⟨v3, a3, h3, r3, rfl⟩
    try dsimp only
    have hk3 := Ctl.more_fit hk2 (1 + c) v3
    have s3 := ctl_put (S := S) (i := i) (L := L) (a := a3) (z := z) hk2 (by omega) (ctl_more hk2 hc v3)
    have n1 : ∀ vs, nextS S.length (S.length + (0 + 1 + 1)) vs (Sr S i L a3 [z, .obj (ctlC (Ctl.more (Ctl.spike (Ctl.step k c v1) c v2) (1 + c) v3))]) = some (vs, _) := fun vs => Stt.stay rfl
    repeat (first
      | refine Ev.fin (by simp [x3, s3, w1, n1] <;> rfl) (by simp [x3, s3, w1, n1]) ?_
      | refine Ev.t (by rfl) ?_
      | refine Ev.f (by rfl) ?_
      | refine Ev.ite (by first | rfl | assumption) ?_
      | refine Ev.to (by simp (disch := omega) [-loadV, -storeV, -Int.natCast_add, loadV_ip, x3, s3, w1, n1] <;> rfl) ?_)
    exact .mk ⟨by omega, _, _, h3, ⟨hk3, p1, p2⟩, rfl⟩
  · skip
    repeat (first
      | refine Ev.fin (by simp [h] <;> rfl) (by simp [h]) ?_
      | refine Ev.t (by rfl) ?_
      | refine Ev.f (by rfl) ?_
      | refine Ev.ite (by first | rfl | assumption) ?_
      | refine Ev.to (by simp (disch := omega) [-loadV, -storeV, -Int.natCast_add, loadV_ip, h] <;> rfl) ?_)
    exact .mk ⟨a, k, hs, hk, rfl⟩

set_option maxHeartbeats 2000000 in
theorem g_Control (i : Nat) : Maker 14 [.ptr i 0] i fun v => ∃ k : Ctl, v = .agg (ctlC k) ∧ CtlOk k := by
  intro S L a hs
  unfold Mk
  rw [k14]
  unfold F14
  simp only [Stt.length, List.length_nil, Nat.add_zero, Stt.app, List.nil_append]
  repeat (first
    | refine Ev.fin (by simp [] <;> rfl) (by simp []) ?_
    | refine Ev.t (by rfl) ?_
    | refine Ev.f (by rfl) ?_
    | refine Ev.ite (by first | rfl | assumption) ?_
    | refine Ev.to (by simp (disch := omega) [-loadV, -storeV, -Int.natCast_add, loadV_ip] <;> rfl) ?_)
  refine Ev.bind (e_Pick (by assumption) (by simp) (by simp) (by simp)) ?_
  rintro _ ⟨v1, a1, h1, r1, rfl⟩
  try dsimp only
  repeat (first
    | refine Ev.fin (by simp [] <;> rfl) (by simp []) ?_
    | refine Ev.t (by rfl) ?_
    | refine Ev.f (by rfl) ?_
    | refine Ev.ite (by first | rfl | assumption) ?_
    | refine Ev.to (by simp (disch := omega) [-loadV, -storeV, -Int.natCast_add, loadV_ip] <;> rfl) ?_)
  refine Ev.bind (e_Pick (by assumption) (by simp) (by simp) (by simp)) ?_
  rintro _ ⟨v2, a2, h2, r2, rfl⟩
  try dsimp only
  repeat (first
    | refine Ev.fin (by simp [] <;> rfl) (by simp []) ?_
    | refine Ev.t (by rfl) ?_
    | refine Ev.f (by rfl) ?_
    | refine Ev.ite (by first | rfl | assumption) ?_
    | refine Ev.to (by simp (disch := omega) [-loadV, -storeV, -Int.natCast_add, loadV_ip] <;> rfl) ?_)
  refine Ev.bind (e_Range (by assumption) (by omega) (by omega) (by omega)) ?_
  rintro _ ⟨v3, a3, h3, r3, _, rfl⟩
  try dsimp only
  repeat (first
    | refine Ev.fin (by simp [] <;> rfl) (by simp []) ?_
    | refine Ev.t (by rfl) ?_
    | refine Ev.f (by rfl) ?_
    | refine Ev.ite (by first | rfl | assumption) ?_
    | refine Ev.to (by simp (disch := omega) [-loadV, -storeV, -Int.natCast_add, loadV_ip] <;> rfl) ?_)
  refine Ev.bind (e_Pick (by assumption) (by simp) (by simp) (by simp)) ?_
  rintro _ ⟨v4, a4, h4, r4, rfl⟩
  try dsimp only
  repeat (first
    | refine Ev.fin (by simp [] <;> rfl) (by simp []) ?_
    | refine Ev.t (by rfl) ?_
    | refine Ev.f (by rfl) ?_
    | refine Ev.ite (by first | rfl | assumption) ?_
    | refine Ev.to (by simp (disch := omega) [-loadV, -storeV, -Int.natCast_add, loadV_ip] <;> rfl) ?_)
  refine Ev.bind (e_Pick (by assumption) (by simp) (by simp) (by simp)) ?_
  rintro _ ⟨v5, a5, h5, r5, rfl⟩
  try dsimp only
  repeat (first
    | refine Ev.fin (by simp [] <;> rfl) (by simp []) ?_
    | refine Ev.t (by rfl) ?_
    | refine Ev.f (by rfl) ?_
    | refine Ev.ite (by first | rfl | assumption) ?_
    | refine Ev.to (by simp (disch := omega) [-loadV, -storeV, -Int.natCast_add, loadV_ip] <;> rfl) ?_)
  let k0 : Ctl := ⟨v1, List.replicate 12 0, List.replicate 12 0, [v2, 0, 0, 0, 0, 0, 0, 0, 0, 0, 0, 0, 0, v3, v4, v5]⟩
  refine Ev.to (show cells1 (cellsOf (AV.agg (ctlC k0))) = some (ctlC k0) from cells1_ctl k0) ?_
  refine Ev.ite rfl ?_
  simp only [Stt.app, List.cons_append, List.nil_append, Stt.length, List.length_cons, List.length_nil, Nat.zero_add]
  refine Ev.bind (Ev.iter (Q := fun r => ∃ a k, Sc S i L a ∧ CtlOk k ∧ r = (.exit 0, [], Sr S i L a [.obj (List.replicate 41 (i64 0)), .obj (ctlC k)]))
    (fun m st => ∃ (c a : Nat) (k : Ctl), c + m = 12 ∧ st = ([i64 (c : Int)], Sr S i L a [.obj (List.replicate 41 (i64 0)), .obj (ctlC k)]) ∧ Sc S i L a ∧ CtlOk k) (fun m st ⟨c, a, k, hc, e, hs, hk⟩ => (g_ControlL st c a k e hs hk (by omega)).mono fun x hx => ?_)
    (k := 11) ⟨1, a5, k0, rfl, rfl, h5, ⟨⟨rfl, rfl, rfl⟩, by show possP (List.replicate 12 0) = true; decide, by show possP (List.replicate 12 0) = true; decide⟩⟩) ?_
  · cases x with
    | inr r => exact hx
    | inl s' =>
      obtain ⟨h1, a, k, h2, h3, h4⟩ := hx
      exact ⟨m - 1, by omega, c + 1, a, k, by omega, h4, h2, h3⟩
  rintro _ ⟨a6, k, h6, hk, rfl⟩
  refine Ev.exK ?_
  simp only [Nat.beq_refl, cond_true]
  have ld1 := Stt.loadA (S := S) (i := i) (e := srcE L a6) (k := 1) (es := [.obj (List.replicate 41 (i64 0)), .obj (ctlC k)]) (n := 41) rfl (ctl_length hk.fit)
  have st1 := Stt.storeA0 (S := S) (i := i) (e := srcE L a6) (es := [.obj (List.replicate 41 (i64 0)), .obj (ctlC k)]) (n := 41) rfl (cells1_ctl k) (ctl_length hk.fit) rfl
  have ld2 := Stt.loadA0 (S := S) (i := i) (e := srcE L a6) (es := [.obj (ctlC k), .obj (ctlC k)]) (n := 41) rfl (ctl_length hk.fit)
  refine Ev.to ld1 (Ev.to st1 (Ev.to (a := [.agg (ctlC k)]) (bind_of ld2 rfl) ?_))
  refine Ev.fin (vs' := [.agg (ctlC k)]) (by simp only [fins, fin1, imms_ctl, Option.bind_some]) ?_ ⟨_, _, h6, ⟨k, rfl, hk⟩, rfl⟩
  have : ∀ n (l : List Int), belows n (l.map i64) = true := fun n l => by induction l <;> simp_all
  have h := this S.length (k.hops :: (k.steps ++ k.spikes ++ k.rest))
  simpa [ctlC] using h

end Go.Proofs.YtlilahgndpdkfaaDoor

/-
  What the makers of given data answer: series of reports.
-/
namespace Go.Proofs.YtlilahgndpdkfaaDoor
open Go Go.Abs

set_option maxHeartbeats 1000000 in
theorem s_clamp {c v : Int} (h1 : 1 ≤ c) (h2 : c ≤ 11) (S : Store) : ∃ w, call 30 [i64 c, i64 v] S = some (i64 w, S) ∧ lo c ≤ w ∧ w ≤ hi c := by
  refine ⟨max2 (lo c) (min2 (hi c) v), ?_, ?_, ?_⟩
  · rw [k30]
    unfold F30
    rcases elem_cases h1 h2 with rfl | rfl | rfl | rfl | rfl | rfl | rfl | rfl | rfl | rfl | rfl <;>
      simp [indexAV, at?, lo, hi, boundsL]
  · unfold max2; split <;> omega
  · have : lo c ≤ hi c := by rcases elem_cases h1 h2 with rfl | rfl | rfl | rfl | rfl | rfl | rfl | rfl | rfl | rfl | rfl <;> decide
    unfold max2 min2; split <;> split at * <;> omega

def nALPHA : List UInt8 := [65, 76, 80, 72, 65]
def nBRAVO : List UInt8 := [66, 82, 65, 86, 79]

/-- Readings of elements below c, in order, within their ranges. -/
structure RdOk (c : Int) (l : List Rd) : Prop where
  incr : incrR l = true
  ok : ∀ r ∈ l, checkP r = 0 ∧ 1 ≤ r.1 ∧ r.1 < c

theorem incrR_snoc {l : List Rd} {x : Rd} (h : incrR l = true) (hx : ∀ r ∈ l, r.1 < x.1) : incrR (l ++ [x]) = true := by
  rw [incrR_iff] at *
  intro i hi
  simp only [List.length_append, List.length_singleton] at hi
  by_cases h2 : i + 1 < l.length
  · rw [List.getElem_append_left (by omega), List.getElem_append_left h2]; exact h i h2
  · rw [List.getElem_append_left (by omega), List.getElem_append_right (by omega)]
    simp only [List.getElem_singleton]
    exact hx _ (List.getElem_mem _)

theorem RdOk.snoc {c : Int} {l : List Rd} (h : RdOk c l) {w : Int} (h1 : 1 ≤ c) (h2 : c ≤ 11) (h3 : lo c ≤ w) (h4 : w ≤ hi c) : RdOk (c + 1) (l ++ [(c, w)]) := by
  refine ⟨incrR_snoc h.incr fun r hr => (h.ok r hr).2.2, fun r hr => ?_⟩
  rcases List.mem_append.1 hr with hr | hr
  · obtain ⟨a, b, c⟩ := h.ok r hr; exact ⟨a, b, by omega⟩
  · obtain rfl := List.mem_singleton.1 hr
    refine ⟨?_, h1, by simp only; omega⟩
    unfold checkP
    simp only
    rw [if_neg (by omega), if_neg (by omega)]

theorem RdOk.up {c d : Int} {l : List Rd} (h : RdOk c l) (hd : c ≤ d) : RdOk d l := ⟨h.incr, fun r hr => ⟨(h.ok r hr).1, (h.ok r hr).2.1, by have := (h.ok r hr).2.2; omega⟩⟩

theorem RdOk.valid {c : Int} {l : List Rd} (h : RdOk c l) : validP l = 0 := by
  unfold validP
  have a : ∀ e : Int, e ≠ 0 → (l.any fun r => checkP r == e) = false := fun e he => by
    rw [List.any_eq_false]; intro r hr; rw [(h.ok r hr).1]; simp; exact fun h => he h.symm
  rw [a 4 (by decide), a 1 (by decide), h.incr]; rfl

theorem incr_len : ∀ (l : List Rd) (a : Int), l.Pairwise (fun x y => x.1 < y.1) → (∀ r ∈ l, a ≤ r.1 ∧ r.1 < 12) → a ≤ 12 → (l.length : Int) ≤ 12 - a
  | [], a, _, _, ha => by simp; omega
  | x :: l, a, h, hr, ha => by
    have hx := hr x (by simp)
    have h' := List.pairwise_cons.1 h
    have := incr_len l (x.1 + 1) h'.2 (fun r hr' => by
      have h1 := h'.1 r hr'
      have h2 := hr r (by simp [hr'])
      omega) (by omega)
    simp only [List.length_cons]
    omega

theorem RdOk.len {l : List Rd} (h : RdOk 12 l) : l.length ≤ 11 := by
  have := incr_len l 1 (incrR_pairwise h.incr) (fun r hr => ⟨(h.ok r hr).2.1, (h.ok r hr).2.2⟩) (by omega)
  omega

/-- The entries of a series that is made: the reports, the values, the readings of the report that is made, the report. -/
def serE (n : Nat) (vals : List Int) (r : Rep) (j : Nat) : Store :=
  [.tail n 8, .obj (vals.map i64), .tail r.rd.length 2, .obj [i64 r.kind, .str r.name, i64 r.time, i64 r.face, i64 r.pa, i64 r.pb, i64 r.pc, .sl (rds r.rd) (.own j)]]

section
variable {S : Store} {i : Nat} {L : List Int}

theorem ser_put {n a c : Nat} {vals : List Int} {r : Rep} {j : Nat} (hv : vals.length = 12) (hc : c < 12) (v : Int) :
    storeV S.length 1 (.ptr (S.length + 1) c) (i64 v) (Sr S i L a (serE n vals r j)) = some (Sr S i L a (serE n (vals.set c v) r j)) := by
  have := Stt.store (S := S) (i := i) (e := srcE L a) (es := serE n vals r j) (k := 1) (o := c) (n := 1) (v := i64 v) (cs := vals.map i64) (vs := [i64 v]) rfl rfl rfl (by simp; omega)
  rw [this]
  simp only [setC, serE, List.set_cons_succ, List.set_cons_zero, List.map_set]

set_option maxHeartbeats 2000000 in
theorem g_SeriesJ2 {n a c : Nat} {vals : List Int} {r : Rep} {v : Int} {n2 : Nat} (h1 : 1 ≤ c) (h2 : c ≤ 11) (hr : RdOk c r.rd) (hn : n2 = S.length + 4) (hl : r.rd.length ≤ 1000) :
    ∃ w, lo c ≤ w ∧ w ≤ hi c ∧ F12_J2 call S.length n2 (.ptr (S.length + 3) 0) (i64 (c : Int)) (i64 v) (Sr S i L a (serE n vals r (S.length + 2))) =
      some (.inl ([i64 ((c + 1 : Nat) : Int)], Sr S i L a (serE n vals { r with rd := r.rd ++ [((c : Int), w)] } (S.length + 2)))) := by
  obtain ⟨w, h3, h4, h5⟩ := s_clamp (c := c) (v := v) (by omega) (by omega) (Sr S i L a (serE n vals r (S.length + 2)))
  refine ⟨w, h4, h5, ?_⟩
  unfold F12_J2 F12_J1
  have ld := Stt.load (S := S) (i := i) (e := srcE L a) (es := serE n vals r (S.length + 2)) (k := 3) (o := 7) (n := none) (cs := [i64 r.kind, .str r.name, i64 r.time, i64 r.face, i64 r.pa, i64 r.pb, i64 r.pc, .sl (rds r.rd) (.own (S.length + 2))]) rfl
  have ap := Stt.append (S := S) (i := i) (e := srcE L a) (es := serE n vals r (S.length + 2)) (k := 2) (n := r.rd.length) (sz := 2) (xs := rds r.rd) (ys := [[i64 (c : Int), i64 w]]) (t := .full) rfl (by simp) rfl (by simp) (by simp [room]; omega)
  have st := Stt.store (S := S) (i := i) (e := srcE L a) (es := (serE n vals r (S.length + 2)).set 2 (.tail ((rds r.rd).length + 1) 2)) (k := 3) (o := 7) (n := 1) (v := .sl (rds r.rd ++ [[i64 (c : Int), i64 w]]) (.own (S.length + 2))) (vs := [.sl (rds r.rd ++ [[i64 (c : Int), i64 w]]) (.own (S.length + 2))]) rfl rfl rfl (by simp)
  have w1 : IntKind.i64.wrap ((c : Int) + 1) = ((c + 1 : Nat) : Int) := by rw [wrap_in (by unfold In64; omega)]; omega
  have e1 : ((serE n vals r (S.length + 2)).set 2 (.tail ((rds r.rd).length + 1) 2)).set 3 (.obj (setC [i64 r.kind, .str r.name, i64 r.time, i64 r.face, i64 r.pa, i64 r.pb, i64 r.pc, .sl (rds r.rd) (.own (S.length + 2))] 7 [.sl (rds r.rd ++ [[i64 (c : Int), i64 w]]) (.own (S.length + 2))])) =
      serE n vals { r with rd := r.rd ++ [((c : Int), w)] } (S.length + 2) := by
    simp [serE, rds_app, rds]
  rw [e1] at st
  have nx : ∀ vs, nextS S.length n2 vs (Sr S i L a (serE n vals { r with rd := r.rd ++ [((c : Int), w)] } (S.length + 2))) = some (vs, _) := fun vs => by rw [hn]; exact Stt.stay rfl
  simp only [List.length_cons, List.length_nil, Nat.zero_add, rds_length] at ap st
  repeat (first
    | rfl
    | refine cond_t (by rfl) ?_
    | refine cond_f (by rfl) ?_
    | refine ite_of (by first | rfl | assumption) ?_
    | refine bind_of (by simp [-loadV, -storeV, -Int.natCast_add, loadV_ip, ld, h3, ap, st, w1, nx] <;> rfl) ?_)

end

end Go.Proofs.YtlilahgndpdkfaaDoor

/-
  The sanity check of the laws: the examples of the chapter.
-/
namespace Go.Proofs.YtlilahgndpdkfaaDoor
open Go Go.Abs

def threeR (a t : Int) : Rep := ⟨1, nALPHA, t, 0, 0, 0, 0, [(1, a)]⟩
def threeL (a b c : Int) : List Rep := [threeR a 0, threeR b 60, threeR c 120]

theorem s_three (a b c : Int) (S : Store) : call 27 [i64 a, i64 b, i64 c] S = some (.sl (reps (threeL a b c)) .none, S) := by
  rw [k27]
  unfold F27
  have ow : ownV 8 (.sl [] .full) S = some (.sl [] (.own S.length), S ++ [.tail 0 8]) := rfl
  have hb : Nat.blt S.length S.length = false := blt_false (Nat.le_refl _)
  have key := iter_run (step := fun s => F27_L1 call S.length (.sl [[i64 a], [i64 b], [i64 c]] .full) (i64 3) (s.1.getD 0 .u) (s.1.getD 1 .u) s.2) (fun k => ([.sl (reps ((threeL a b c).take k)) (.own S.length), i64 (k : Nat)], S ++ [.tail k 8])) (r := (Ex.exit 0, [.sl (reps (threeL a b c)) (.own S.length)], S ++ [.tail 3 8])) 3 0
    (fun k _ hk => by
      have nx : ∀ vs, nextS S.length (S.length + 1) vs (S ++ [.tail (k + 1) 8]) = some (vs, S ++ [.tail (k + 1) 8]) := fun vs => nextS_eq (by simp)
      have hl : (S ++ [Ent.tail k 8]).length = S.length + 1 := by simp
      have ap : ∀ (r : Rep), (threeL a b c).take k ++ [r] = (threeL a b c).take (k + 1) → appendV 8 (.sl (reps ((threeL a b c).take k)) (.own S.length)) (.sl [repR r] .full) (S ++ [.tail k 8]) = some (.sl (reps ((threeL a b c).take (k + 1))) (.own S.length), S ++ [.tail (k + 1) 8]) := fun r hr => by
        have hg : (S ++ [Ent.tail k 8])[S.length]? = some (.tail k 8) := Ap.get (k := 0)
        have hi : immRows 8 [repR r] = some [repR r] := by simp [immRows]
        simp only [appendV, rowsOf_sl, Option.bind_some, hi, hg]
        have hk3 : ((threeL a b c).take k).length = k := by simp [threeL]; omega
        rw [if_pos (by simp [room, hk3]; omega), if_pos ⟨by simp [hk3], trivial⟩, List.set_append_right _ _ (Nat.le_refl _), ← hr]
        simp [reps]
      unfold F27_L1
      simp only [hl]
      obtain rfl | rfl | rfl : k = 0 ∨ k = 1 ∨ k = 2 := by omega
      · have ap' := ap (threeR a 0) rfl
        simp only [repR, threeR, nALPHA, rds, List.map_cons, List.map_nil] at ap'
        simp only [Nat.zero_add, Nat.reduceAdd] at *
        generalize reps (List.take 0 (threeL a b c)) = A at *
        generalize reps (List.take 1 (threeL a b c)) = B at *
        repeat (first
          | rfl
          | refine cond_t (by rfl) ?_
          | refine cond_f (by rfl) ?_
          | refine ite_of (by first | rfl | assumption) ?_
          | refine bind_of (by simp [-loadV, -storeV, -Int.natCast_add, loadV_ip, indexAV, at?, ap', nx, ownV] <;> rfl) ?_)
      · have ap' := ap (threeR b 60) rfl
        simp only [repR, threeR, nALPHA, rds, List.map_cons, List.map_nil] at ap'
        simp only [Nat.zero_add, Nat.reduceAdd] at *
        generalize reps (List.take 1 (threeL a b c)) = A at *
        generalize reps (List.take 2 (threeL a b c)) = B at *
        repeat (first
          | rfl
          | refine cond_t (by rfl) ?_
          | refine cond_f (by rfl) ?_
          | refine ite_of (by first | rfl | assumption) ?_
          | refine bind_of (by simp [-loadV, -storeV, -Int.natCast_add, loadV_ip, indexAV, at?, ap', nx, ownV] <;> rfl) ?_)
      · have ap' := ap (threeR c 120) rfl
        simp only [repR, threeR, nALPHA, rds, List.map_cons, List.map_nil] at ap'
        simp only [Nat.zero_add, Nat.reduceAdd] at *
        generalize reps (List.take 2 (threeL a b c)) = A at *
        generalize reps (List.take 3 (threeL a b c)) = B at *
        repeat (first
          | rfl
          | refine cond_t (by rfl) ?_
          | refine cond_f (by rfl) ?_
          | refine ite_of (by first | rfl | assumption) ?_
          | refine bind_of (by simp [-loadV, -storeV, -Int.natCast_add, loadV_ip, indexAV, at?, ap', nx, ownV] <;> rfl) ?_))
    (by simp [F27_L1]; rfl)
  refine bind_of ow ?_
  refine bind_of (a := .sl [[i64 a], [i64 b], [i64 c]] .full) rfl (bind_of (a := i64 3) rfl ?_)
  refine bind_of key ?_
  simp [finish, hb]

def awK : Ctl := ⟨0, [0, 10, 0, 0, 0, 0, 0, 0, 0, 0, 0, 0], List.replicate 12 0, List.replicate 16 0⟩

theorem aw1 : flagsP (threeL 10000 10100 10001) awK = [(1, 1)] ∧ examP (threeL 10000 10100 10001) awK = 0 := by decide
theorem aw2 : flagsP (threeL 10000 10100 10101) awK = [] ∧ examP (threeL 10000 10100 10101) awK = 0 := by decide

theorem few_three (a b c : Int) : Few (threeL a b c) := ⟨by simp [threeL], fun r hr => by
  simp only [threeL, List.mem_cons, List.not_mem_nil, or_false] at hr
  rcases hr with rfl | rfl | rfl <;> simp [threeR]⟩

theorem s_awake (S : Store) : call 10 [] S = some (.bool true, S) := by
  rw [k10]
  unfold F10
  have hf : awK.Fit := ⟨rfl, rfl, rfl⟩
  obtain ⟨u1, c1⟩ := s_Check (t := .none) hf (few_three 10000 10100 10001) (S ++ [.obj (ctlC awK)])
  obtain ⟨u2, c2⟩ := s_Check (t := .none) hf (few_three 10000 10100 10101) (S ++ [.obj (ctlC awK)])
  rw [aw1.1, aw1.2] at c1
  rw [aw2.1, aw2.2] at c2
  have fl := r_Flags (a := [(1, 1)]) (b := [(1, 1)]) (t := u1) (u := .full) (by simp) (S ++ [.obj (ctlC awK)])
  have t1 := s_three 10000 10100 10001 (S ++ [.obj (ctlC awK)])
  have t2 := s_three 10000 10100 10101 (S ++ [.obj (ctlC awK)])
  have l1 := Ap.loadA0 (S := S) (es := [.obj (ctlC awK)]) (cs := ctlC awK) (n := 41) rfl rfl
  have st := Ap.store0 (S := S) (es := [.obj (List.replicate 41 (i64 0))]) (o := 2) (n := 1) (v := i64 10) (vs := [i64 10]) rfl rfl rfl (by simp)
  have hc : imms (ctlC awK) = some (ctlC awK) := imms_ctl awK
  have hst : storeV S.length 1 (.ptr S.length 2) (.int .i64 10) (S ++ [.obj (List.replicate 41 (i64 0))]) = some (S ++ [.obj (ctlC awK)]) := st
  dsimp only
  refine bind_of (a := .ptr S.length 1) rfl (bind_of (a := .ptr S.length 2) rfl (bind_of hst ?_))
  simp only [flagRows, flagR, List.map_cons, List.map_nil] at c1 c2 fl
  generalize ctlC awK = K at *
  generalize reps (threeL 10000 10100 10001) = A at *
  generalize reps (threeL 10000 10100 10101) = B at *
  repeat (first
    | rfl
    | refine cond_t (by rfl) ?_
    | refine cond_f (by rfl) ?_
    | refine ite_of (by first | rfl | assumption) ?_
    | refine bind_of (by simp [-loadV, -storeV, -Int.natCast_add, loadV_ip, t1, t2, l1, hc, c1, c2, fl] <;> rfl) ?_)
  simp

end Go.Proofs.YtlilahgndpdkfaaDoor

/-
  What the makers of given data answer: series of reports, their rounds.
-/
namespace Go.Proofs.YtlilahgndpdkfaaDoor
open Go Go.Abs

section
variable {S : Store} {i : Nat} {L : List Int}

set_option maxHeartbeats 4000000 in
theorem g_SeriesL2 {n a c : Nat} {vals : List Int} {r : Rep} {t7 t9 t10 : AV} (hs : Sc S i L a) (hv : vals.length = 12) (h1 : 1 ≤ c) (h12 : c ≤ 12) (hr : RdOk c r.rd) :
    Ev (F12_L2 call S.length (.ptr i 0) t7 (.ptr (S.length + 1) 0) t9 t10 (.ptr (S.length + 3) 0) (i64 (c : Int)) (Sr S i L a (serE n vals r (S.length + 2)))) fun x => match x with
      | .inr q => ∃ (a : Nat) (vals : List Int) (rd : List Rd), Sc S i L a ∧ vals.length = 12 ∧ RdOk 12 rd ∧ q = (.exit 2, [], Sr S i L a (serE n vals { r with rd := rd } (S.length + 2)))
      | .inl s => c + 1 ≤ 12 ∧ ∃ (a : Nat) (vals : List Int) (rd : List Rd), Sc S i L a ∧ vals.length = 12 ∧ RdOk ((c + 1 : Nat) : Int) rd ∧ s = ([i64 ((c + 1 : Nat) : Int)], Sr S i L a (serE n vals { r with rd := rd } (S.length + 2))) := by
  have hl : r.rd.length ≤ 1000 := by
    have := (hr.up (d := 12) (by omega)).len
    omega
  unfold F12_L2
  simp only [Stt.length]
  have hlen : S.length + (serE n vals r (S.length + 2)).length = S.length + 4 := rfl
  rw [hlen]
  by_cases h : (c : Int) ≤ 11
  · have hc : c < 12 := by omega
    have x1 := idx12 (S.length + 1) 0 hc
    rw [Nat.zero_add] at x1
    have fin : ∀ (a2 : Nat) (vals2 : List Int) (v : Int), Sc S i L a2 → vals2.length = 12 → Ev (F12_J2 call S.length (S.length + 4) (.ptr (S.length + 3) 0) (i64 (c : Int)) (i64 v) (Sr S i L a2 (serE n vals2 r (S.length + 2)))) fun x => match x with
      | .inr q => ∃ (a : Nat) (vals : List Int) (rd : List Rd), Sc S i L a ∧ vals.length = 12 ∧ RdOk 12 rd ∧ q = (.exit 2, [], Sr S i L a (serE n vals { r with rd := rd } (S.length + 2)))
      | .inl s => c + 1 ≤ 12 ∧ ∃ (a : Nat) (vals : List Int) (rd : List Rd), Sc S i L a ∧ vals.length = 12 ∧ RdOk ((c + 1 : Nat) : Int) rd ∧ s = ([i64 ((c + 1 : Nat) : Int)], Sr S i L a (serE n vals { r with rd := rd } (S.length + 2))) := fun a2 vals2 v hs2 hv2 => by
      obtain ⟨w, w1, w2, w3⟩ := g_SeriesJ2 (S := S) (i := i) (L := L) (n := n) (a := a2) (vals := vals2) (v := v) h1 (by omega) hr rfl hl
      exact .of w3 ⟨by omega, a2, vals2, _, hs2, hv2, hr.snoc (by omega) (by omega) w1 w2, rfl⟩
    have ld : ∀ a2, ∃ v, loadV none (.ptr (S.length + 1) c) (Sr S i L a2 (serE n vals r (S.length + 2))) = some (i64 v) := fun a2 => by
      refine ⟨vals.getD c 0, ?_⟩
      rw [Stt.load (k := 1) (cs := vals.map i64) rfl, take_none]
      simp [List.getD_eq_getElem?_getD, List.getElem?_eq_getElem (show c < vals.length by omega)]
    repeat (first
      | refine Ev.fin (by simp [h] <;> rfl) (by simp [h]) ?_
      | refine Ev.t (by rfl) ?_
      | refine Ev.f (by rfl) ?_
      | refine Ev.ite (by first | rfl | assumption) ?_
      | refine Ev.to (by simp (disch := omega) [-loadV, -storeV, -Int.natCast_add, loadV_ip, h] <;> rfl) ?_)
    refine Ev.bind (e_N (by assumption) (by omega) (by omega)) ?_
    rintro _ ⟨v1, a1, h2, _, _, rfl⟩
    try dsimp only
    repeat (first
      | refine Ev.fin (by simp [] <;> rfl) (by simp []) ?_
      | refine Ev.t (by rfl) ?_
      | refine Ev.f (by rfl) ?_
      | refine Ev.ite (by first | rfl | assumption) ?_
      | refine Ev.to (by simp (disch := omega) [-loadV, -storeV, -Int.natCast_add, loadV_ip] <;> rfl) ?_)
    refine Ev.beq (fun _ => ?_) (fun _ => ?_)
    · unfold F12_J1
      have w1 : IntKind.i64.wrap ((c : Int) + 1) = ((c + 1 : Nat) : Int) := by rw [wrap_in (by unfold In64; omega)]; omega
      have nx : ∀ vs, nextS S.length (S.length + 4) vs (Sr S i L a1 (serE n vals r (S.length + 2))) = some (vs, _) := fun vs => Stt.stay rfl
      repeat (first
        | refine Ev.fin (by simp [w1, nx] <;> rfl) (by simp [w1, nx]) ?_
        | refine Ev.t (by rfl) ?_
        | refine Ev.f (by rfl) ?_
        | refine Ev.ite (by first | rfl | assumption) ?_
        | refine Ev.to (by simp (disch := omega) [-loadV, -storeV, -Int.natCast_add, loadV_ip, w1, nx] <;> rfl) ?_)
      exact .mk ⟨by omega, a1, vals, r.rd, h2, hv, hr.up (by omega), rfl⟩
    · obtain ⟨v0, ld1⟩ := ld a1
      repeat (first
        | refine Ev.fin (by simp [x1, ld1] <;> rfl) (by simp [x1, ld1]) ?_
        | refine Ev.t (by rfl) ?_
        | refine Ev.f (by rfl) ?_
        | refine Ev.ite (by first | rfl | assumption) ?_
        | refine Ev.to (by simp (disch := omega) [-loadV, -storeV, -Int.natCast_add, loadV_ip, x1, ld1] <;> rfl) ?_)
      refine Ev.bind (e_N (by assumption) (by omega) (by omega)) ?_
      rintro _ ⟨v2, a2, h3, _, _, rfl⟩
      try dsimp only
      repeat (first
        | refine Ev.fin (by simp [] <;> rfl) (by simp []) ?_
        | refine Ev.t (by rfl) ?_
        | refine Ev.f (by rfl) ?_
        | refine Ev.ite (by first | rfl | assumption) ?_
        | refine Ev.to (by simp (disch := omega) [-loadV, -storeV, -Int.natCast_add, loadV_ip] <;> rfl) ?_)
      refine Ev.beq (fun _ => ?_) (fun _ => ?_)
      · skip
        repeat (first
          | refine Ev.fin (by simp [] <;> rfl) (by simp []) ?_
          | refine Ev.t (by rfl) ?_
          | refine Ev.f (by rfl) ?_
          | refine Ev.ite (by first | rfl | assumption) ?_
          | refine Ev.to (by simp (disch := omega) [-loadV, -storeV, -Int.natCast_add, loadV_ip] <;> rfl) ?_)
        refine Ev.bind (e_Range (by assumption) (by omega) (by omega) (by omega)) ?_
        rintro _ ⟨v3, a3, h4, _, _, rfl⟩
        try dsimp only
        refine Ev.to rfl ?_
        have sp := ser_put (S := S) (i := i) (L := L) (n := n) (a := a3) (r := r) (j := S.length + 2) hv hc (IntKind.i64.wrap (v0 + v3))
        refine Ev.to x1 (Ev.to sp ?_)
        exact fin _ _ _ h4 (by simpa using hv)
      · skip
        repeat (first
          | refine Ev.fin (by simp [] <;> rfl) (by simp []) ?_
          | refine Ev.t (by rfl) ?_
          | refine Ev.f (by rfl) ?_
          | refine Ev.ite (by first | rfl | assumption) ?_
          | refine Ev.to (by simp (disch := omega) [-loadV, -storeV, -Int.natCast_add, loadV_ip] <;> rfl) ?_)
        refine Ev.beq (fun _ => ?_) (fun _ => ?_)
        · skip
          repeat (first
            | refine Ev.fin (by simp [] <;> rfl) (by simp []) ?_
            | refine Ev.t (by rfl) ?_
            | refine Ev.f (by rfl) ?_
            | refine Ev.ite (by first | rfl | assumption) ?_
            | refine Ev.to (by simp (disch := omega) [-loadV, -storeV, -Int.natCast_add, loadV_ip] <;> rfl) ?_)
          refine Ev.bind (e_Range (by assumption) (by omega) (by omega) (by omega)) ?_
          rintro _ ⟨v3, a3, h4, _, _, rfl⟩
          try dsimp only
          refine Ev.to rfl ?_
          exact fin _ _ _ h4 hv
        · skip
          repeat (first
            | refine Ev.fin (by simp [] <;> rfl) (by simp []) ?_
            | refine Ev.t (by rfl) ?_
            | refine Ev.f (by rfl) ?_
            | refine Ev.ite (by first | rfl | assumption) ?_
            | refine Ev.to (by simp (disch := omega) [-loadV, -storeV, -Int.natCast_add, loadV_ip] <;> rfl) ?_)
          refine Ev.beq (fun _ => ?_) (fun _ => ?_)
          · skip
            repeat (first
              | refine Ev.fin (by simp [] <;> rfl) (by simp []) ?_
              | refine Ev.t (by rfl) ?_
              | refine Ev.f (by rfl) ?_
              | refine Ev.ite (by first | rfl | assumption) ?_
              | refine Ev.to (by simp (disch := omega) [-loadV, -storeV, -Int.natCast_add, loadV_ip] <;> rfl) ?_)
            refine Ev.bind (e_Pick (by assumption) (by simp) (by simp) (by simp)) ?_
            rintro _ ⟨v3, a3, h4, _, rfl⟩
            try dsimp only
            refine Ev.to rfl ?_
            have sp := ser_put (S := S) (i := i) (L := L) (n := n) (a := a3) (r := r) (j := S.length + 2) hv hc (IntKind.i64.wrap (v0 + v3))
            refine Ev.to x1 (Ev.to sp ?_)
            exact fin _ _ _ h4 (by simpa using hv)
          · exact fin _ _ _ h3 hv
  · obtain rfl : c = 12 := by omega
    repeat (first
      | refine Ev.fin (by simp [h] <;> rfl) (by simp [h]) ?_
      | refine Ev.t (by rfl) ?_
      | refine Ev.f (by rfl) ?_
      | refine Ev.ite (by first | rfl | assumption) ?_
      | refine Ev.to (by simp (disch := omega) [-loadV, -storeV, -Int.natCast_add, loadV_ip, h] <;> rfl) ?_)
    exact .mk ⟨a, vals, r.rd, hs, hv, hr, rfl⟩

end

end Go.Proofs.YtlilahgndpdkfaaDoor

/-
  What the makers of given data answer: series of reports, whole.
-/
namespace Go.Proofs.YtlilahgndpdkfaaDoor
open Go Go.Abs

/-- Reports in order of time, from behind m0 up to m. -/
structure SerOk (m0 : Int) (l : List Rep) (m : Int) : Prop where
  rep : ∀ r ∈ l, r.kind = 1 ∧ (r.name = nALPHA ∨ r.name = nBRAVO) ∧ RdOk 12 r.rd ∧ m0 < r.time ∧ r.time ≤ m
  inc : l.Pairwise fun a b => a.time < b.time
  lo : m0 ≤ m
  hi : m ≤ m0 + 90 * l.length

theorem SerOk.snoc {m0 m d : Int} {l : List Rep} {r : Rep} (h : SerOk m0 l m) (h1 : 1 ≤ d) (h2 : d ≤ 90) (hk : r.kind = 1) (hn : r.name = nALPHA ∨ r.name = nBRAVO) (hr : RdOk 12 r.rd) (ht : r.time = m + d) : SerOk m0 (l ++ [r]) (m + d) := by
  have hlo := h.lo
  have hhi := h.hi
  refine ⟨fun x hx => ?_, ?_, by omega, by simp only [List.length_append, List.length_singleton]; omega⟩
  · rcases List.mem_append.1 hx with hx | hx
    · obtain ⟨a, b, c, d, e⟩ := h.rep x hx
      exact ⟨a, b, c, d, by omega⟩
    · obtain rfl := List.mem_singleton.1 hx
      exact ⟨hk, hn, hr, by omega, by omega⟩
  · rw [List.pairwise_append]
    refine ⟨h.inc, List.pairwise_singleton _ _, fun x hx y hy => ?_⟩
    obtain rfl := List.mem_singleton.1 hy
    have := (h.rep x hx).2.2.2.2
    omega

section
variable {S : Store} {i : Nat} {L : List Int}

theorem belows_i64s (n : Nat) (l : List Int) : belows n (l.map i64) = true := by
  induction l with
  | nil => rfl
  | cons a l ih => simp_all

set_option maxHeartbeats 4000000 in
theorem g_SeriesL1 {m0 m : Int} {l : List Rep} {vals : List Int} {c a : Nat} (hs : Sc S i L a) (hv : vals.length = 12) (hl : SerOk m0 l m) (hm : m0 ≤ 52589999) (hm0 : 0 ≤ m0) (hlen : l.length + c ≤ 1000) :
    Ev (F12_L1 call S.length (.ptr i 0) (.ptr (S.length + 1) 0) (.sl (reps l) (.own S.length)) (i64 m) (i64 (c : Int)) (Sr S i L a [.tail l.length 8, .obj (vals.map i64)])) fun x => match x with
      | .inr q => ∃ a es, Sc S i L a ∧ c = 0 ∧ q = (.exit 0, [.sl (reps l) (.own S.length)], Sr S i L a es)
      | .inl s => ∃ (a c' : Nat) (vals : List Int) (r : Rep) (m : Int), c = c' + 1 ∧ Sc S i L a ∧ vals.length = 12 ∧ SerOk m0 (l ++ [r]) m ∧ s = ([.sl (reps (l ++ [r])) (.own S.length), i64 m, i64 (c' : Int)], Sr S i L a [.tail (l ++ [r]).length 8, .obj (vals.map i64)]) := by
  have hlo := hl.lo
  have hhi := hl.hi
  unfold F12_L1
  simp only [Stt.length]
  have hlen2 : S.length + [Ent.tail l.length 8, Ent.obj (vals.map i64)].length = S.length + 2 := rfl
  rw [hlen2]
  by_cases h : (0 : Int) < c
  · obtain ⟨c', rfl⟩ : ∃ c', c = c' + 1 := ⟨c - 1, by omega⟩
    repeat (first
      | refine Ev.fin (by simp [h] <;> rfl) (by simp [h]) ?_
      | refine Ev.t (by rfl) ?_
      | refine Ev.f (by rfl) ?_
      | refine Ev.ite (by first | rfl | assumption) ?_
      | refine Ev.to (by simp (disch := omega) [-loadV, -storeV, -Int.natCast_add, loadV_ip, h] <;> rfl) ?_)
    refine Ev.bind (e_Range (by assumption) (by omega) (by omega) (by omega)) ?_
    rintro _ ⟨v1, a1, h1, r1, r2, rfl⟩
    try dsimp only
    repeat (first
      | refine Ev.fin (by simp [] <;> rfl) (by simp []) ?_
      | refine Ev.t (by rfl) ?_
      | refine Ev.f (by rfl) ?_
      | refine Ev.ite (by first | rfl | assumption) ?_
      | refine Ev.to (by simp (disch := omega) [-loadV, -storeV, -Int.natCast_add, loadV_ip] <;> rfl) ?_)
    refine Ev.bind (e_Text (by assumption) (by simp) (by simp) (by simp)) ?_
    rintro _ ⟨v2, a2, h2, r3, rfl⟩
    try dsimp only
    have oc : ∀ (cs : List AV) , cs[7]? = some (.sl [] .full) → ownCellV 2 7 (.agg cs) (Sr S i L a2 [.tail l.length 8, .obj (vals.map i64)]) = some (.agg (cs.set 7 (.sl [] (.own (S.length + 2)))), Sr S i L a2 [.tail l.length 8, .obj (vals.map i64), .tail 0 2]) := fun cs hc => by
      simp only [ownCellV, hc, szOK, cond_true, Stt.length, Stt.app, List.length_nil, List.length_cons, Nat.zero_add, List.cons_append, List.nil_append]
    refine Ev.to rfl ?_
    refine Ev.to (oc _ rfl) ?_
    refine Ev.to rfl (Ev.ite rfl ?_)
    let r0 : Rep := ⟨1, v2, m + v1, 0, 0, 0, 0, []⟩
    simp only [Stt.app, List.cons_append, List.nil_append, Stt.length, List.length_cons, List.length_nil, Nat.zero_add]
    refine Ev.bind (Ev.iter (Q := fun q => ∃ (a : Nat) (vals : List Int) (rd : List Rd), Sc S i L a ∧ vals.length = 12 ∧ RdOk 12 rd ∧ q = (.exit 2, [], Sr S i L a (serE l.length vals { r0 with rd := rd } (S.length + 2))))
      (fun k st => ∃ (c a : Nat) (vals : List Int) (rd : List Rd), c + k = 12 ∧ 1 ≤ c ∧ Sc S i L a ∧ vals.length = 12 ∧ RdOk (c : Int) rd ∧ st = ([i64 (c : Int)], Sr S i L a (serE l.length vals { r0 with rd := rd } (S.length + 2))))
      (fun k st ⟨c, a, vals, rd, hc, hc1, hs, hv, hr, e⟩ => ?_) (k := 11) ⟨1, a2, vals, [], rfl, by omega, h2, hv, ⟨rfl, by simp⟩, ?_⟩) ?_
    · subst e
      refine (g_SeriesL2 (r := { r0 with rd := rd }) hs hv hc1 (by omega) hr).mono fun x hx => ?_
      cases x with
      | inr q => exact hx
      | inl s' =>
        obtain ⟨h1, a, vals, rd', h2, h3, h4, h5⟩ := hx
        exact ⟨k - 1, by omega, c + 1, a, vals, rd', by omega, by omega, h2, h3, h4, h5⟩
    · have w : IntKind.i64.wrap (m + v1) = m + v1 := wrap_in (by unfold In64; omega)
      simp [w, serE, r0, rds]
    rintro _ ⟨a3, vals3, rd, h3, hv3, hr3, rfl⟩
    refine Ev.exK ?_
    dsimp only
    rw [Nat.beq_refl, cond_true]
    have ld := Stt.loadA (S := S) (i := i) (e := srcE L a3) (k := 3) (es := serE l.length vals3 { r0 with rd := rd } (S.length + 2)) (n := 8) rfl rfl
    refine Ev.to ld ?_
    have bs : ∀ t, bsliceV 8 [cellsOf (AV.agg [i64 1, .str v2, i64 (m + v1), i64 0, i64 0, i64 0, i64 0, .sl (rds rd) t])] = some (.sl [repR { r0 with rd := rd }] .full) := fun t => by simp [repR, r0]
    refine Ev.to (bs _) ?_
    have ap := Stt.append0 (S := S) (i := i) (e := srcE L a3) (es := serE l.length vals3 { r0 with rd := rd } (S.length + 2)) (n := l.length) (sz := 8) (xs := reps l) (ys := [repR { r0 with rd := rd }]) (t := .full) rfl (by simp) (by simp) (by simp) (by simp [room]; omega)
    refine Ev.to ap (Ev.to rfl (Ev.to rfl ?_))
    have e1 : reps l ++ [repR { r0 with rd := rd }] = reps (l ++ [{ r0 with rd := rd }]) := by simp [reps]
    rw [e1]
    have nx := Stt.next (S := S) (i := i) (e := srcE L a3) (k := 2) (vs := [.sl (reps (l ++ [{ r0 with rd := rd }])) (.own S.length), i64 (m + v1), .int .i64 (IntKind.i64.wrap ((((c' + 1 : Nat) : Int)) - 1))])
      (es := (serE l.length vals3 { r0 with rd := rd } (S.length + 2)).set 0 (.tail ((reps l).length + [repR { r0 with rd := rd }].length) 8)) (by
        have : Nat.blt S.length (S.length + 2) = true := blt_true (by omega)
        simp only [serE, List.set_cons_zero, List.take_succ_cons, List.take_zero, entsBelow, entBelow, belows, belows_i64s, Bool.and_true, below_sl_own, below_int, this])
    refine Ev.to nx ?_
    have w1 : IntKind.i64.wrap ((((c' + 1 : Nat) : Int)) - 1) = (c' : Int) := by rw [wrap_in (by unfold In64; omega)]; omega
    rw [w1]
    refine .mk ⟨a3, c', vals3, { r0 with rd := rd }, m + v1, rfl, h3, hv3, hl.snoc r1 r2 rfl ?_ hr3 rfl, ?_⟩
    · simp only [List.mem_cons, List.cons.injEq, AV.str.injEq, and_true, List.not_mem_nil, or_false] at r3
      rcases r3 with r3 | r3 | r3
      · exact .inl r3
      · exact .inl r3
      · exact .inr r3
    · simp [serE]
  · obtain rfl : c = 0 := by omega
    repeat (first
      | refine Ev.fin (by simp [h] <;> rfl) (by simp [h]) ?_
      | refine Ev.t (by rfl) ?_
      | refine Ev.f (by rfl) ?_
      | refine Ev.ite (by first | rfl | assumption) ?_
      | refine Ev.to (by simp (disch := omega) [-loadV, -storeV, -Int.natCast_add, loadV_ip, h] <;> rfl) ?_)
    exact .mk ⟨a, _, hs, rfl, rfl⟩

end

set_option maxHeartbeats 2000000 in
theorem g_Series {n near : Int} (i : Nat) (hn0 : 0 ≤ n) (hn : n ≤ 999) : Maker 12 [.ptr i 0, i64 n, i64 near] i fun v => ∃ (l : List Rep) (m : Int), v = .sl (reps l) .none ∧ (l.length : Int) ≤ n ∧ SerOk (max2 0 (min2 52589999 near)) l m := by
  intro S L a hs
  unfold Mk
  rw [k12]
  unfold F12
  simp only [Stt.length, List.length_nil, Nat.add_zero]
  have ow : ownV 8 (.sl [] .full) (Sr S i L a []) = some (.sl [] (.own S.length), Sr S i L a [.tail 0 8]) := by
    simp only [ownV, szOK, cond_true, Stt.length, Stt.app, List.length_nil, Nat.add_zero, List.nil_append]
  refine Ev.to ow ?_
  let vals0 : List Int := [0, 10130, 2850, 2800, 0, 50, 1460, 2780, 3010, 2680, 5570, 2520]
  refine Ev.to (a := .agg (vals0.map i64)) rfl ?_
  refine Ev.to (a := vals0.map i64) rfl ?_
  refine Ev.ite rfl ?_
  simp only [Stt.app, List.cons_append, List.nil_append, Stt.length, List.length_cons, List.length_nil, Nat.zero_add]
  refine Ev.to (a := i64 (min2 52589999 near)) rfl ?_
  refine Ev.to (a := i64 (max2 0 (min2 52589999 near))) rfl ?_
  have hm0 : 0 ≤ max2 0 (min2 52589999 near) ∧ max2 0 (min2 52589999 near) ≤ 52589999 := by unfold max2 min2; split <;> split at * <;> omega
  repeat (first
    | refine Ev.fin (by simp [] <;> rfl) (by simp []) ?_
    | refine Ev.t (by rfl) ?_
    | refine Ev.f (by rfl) ?_
    | refine Ev.ite (by first | rfl | assumption) ?_
    | refine Ev.to (by simp (disch := omega) [-loadV, -storeV, -Int.natCast_add, loadV_ip] <;> rfl) ?_)
  refine Ev.bind (e_N (by assumption) (by omega) (by omega)) ?_
  rintro _ ⟨v1, a1, h1, r1, r2, rfl⟩
  try dsimp only
  refine Ev.bind (Ev.iter (Q := fun q => ∃ (a : Nat) (es : Store) (l : List Rep) (m : Int), Sc S i L a ∧ (l.length : Int) ≤ n ∧ SerOk (max2 0 (min2 52589999 near)) l m ∧ q = (.exit 0, [.sl (reps l) (.own S.length)], Sr S i L a es))
    (fun k st => ∃ (a : Nat) (vals : List Int) (l : List Rep) (m : Int), (l.length : Int) + k = v1 ∧ Sc S i L a ∧ vals.length = 12 ∧ SerOk (max2 0 (min2 52589999 near)) l m ∧ st = ([.sl (reps l) (.own S.length), i64 m, i64 (k : Int)], Sr S i L a [.tail l.length 8, .obj (vals.map i64)]))
    (fun k st ⟨a, vals, l, m, hk, hs, hv, hl, e⟩ => ?_) (k := v1.toNat) ⟨a1, vals0, [], max2 0 (min2 52589999 near), by simp; omega, h1, rfl, ⟨by simp, .nil, by omega, by simp⟩, ?_⟩) ?_
  · subst e
    refine (g_SeriesL1 hs hv hl hm0.2 hm0.1 (by omega)).mono fun x hx => ?_
    cases x with
    | inr q =>
      obtain ⟨a, es, h2, h3, h4⟩ := hx
      exact ⟨a, es, l, m, h2, by omega, hl, h4⟩
    | inl s' =>
      obtain ⟨a, c', vals, r, m, h2, h3, h4, h5, h6⟩ := hx
      exact ⟨c', by omega, a, vals, l ++ [r], m, by simp; omega, h3, h4, h5, h6⟩
  · have : ((v1.toNat : Nat) : Int) = v1 := by omega
    simp only [this]; rfl
  rintro _ ⟨a2, es, l, m, h2, h3, h4, rfl⟩
  refine Ev.exK ?_
  dsimp only
  rw [Nat.beq_refl, cond_true]
  have hb : Nat.blt S.length S.length = false := blt_false (Nat.le_refl _)
  refine Ev.fin (vs' := [.sl (reps l) .none]) (by simp [hb]) (by simp) ?_
  exact ⟨_, _, h2, ⟨l, m, rfl, h3, h4⟩, rfl⟩

end Go.Proofs.YtlilahgndpdkfaaDoor

/-
  What the functions of the reference of places answer.
-/
namespace Go.Proofs.YtlilahgndpdkfaaDoor
open Go Go.Abs

set_option maxHeartbeats 4000000 in
theorem p_Corners {f : Int} (h1 : 0 ≤ f) (h2 : f < 20) (S : Store) : call 97 [i64 f] S = some (.tup [.agg ((corn f).map i64), i64 0], S) := by
  rw [k97]
  unfold F97
  rcases face_cases h1 h2 with rfl | rfl | rfl | rfl | rfl | rfl | rfl | rfl | rfl | rfl | rfl | rfl | rfl | rfl | rfl | rfl | rfl | rfl | rfl | rfl <;>
    simp [finish, corn, cornL, i64]

end Go.Proofs.YtlilahgndpdkfaaDoor

/-
  What the functions of the reference of places answer: whether a place is one, its weights, its addresses, the normal place.
-/
namespace Go.Proofs.YtlilahgndpdkfaaDoor
open Go Go.Abs

set_option maxHeartbeats 4000000 in
theorem p_Valid (p : Pl) (S : Store) : call 78 [.agg (plC p)] S = some (.bool (validPl p), S) := by
  rw [k78]
  unfold F78
  have him : imms (cellsOf (AV.agg (plC p))) = some (plC p) := imms_plC
  cases p with
  | mk f a b c =>
  by_cases h1 : 0 ≤ f
  · by_cases h2 : f < 20
    · by_cases h3 : 0 ≤ a
      · by_cases h4 : a ≤ 840
        · by_cases h5 : 0 ≤ b
          · by_cases h6 : b ≤ 840
            · by_cases h7 : 0 ≤ c
              · by_cases h8 : c ≤ 840
                · have e : validPl ⟨f, a, b, c⟩ = (a + b + c == 840) := by simp [validPl, *]
                  rw [e]
                  have w1 : IntKind.i64.wrap (a + b) = a + b := wrap_in (by unfold In64; omega)
                  have w2 : IntKind.i64.wrap (a + b + c) = a + b + c := wrap_in (by unfold In64; omega)
                  refine bind_of him ?_
                  simp only [plC]
                  repeat (first
                    | rfl
                    | refine cond_t (by rfl) ?_
                    | refine cond_f (by rfl) ?_
                    | refine ite_of (by first | rfl | assumption) ?_
                    | refine bind_of (by simp [-loadV, -storeV, -Int.natCast_add, loadV_ip, h1, h2, h3, h4, h5, h6, h7, h8, w1, w2] <;> rfl) ?_)
                  simp
                · have e : validPl ⟨f, a, b, c⟩ = false := by simp [validPl, *]
                  rw [e]
                  refine bind_of him ?_
                  simp only [plC]
                  repeat (first
                    | rfl
                    | refine cond_t (by rfl) ?_
                    | refine cond_f (by rfl) ?_
                    | refine ite_of (by first | rfl | assumption) ?_
                    | refine bind_of (by simp [-loadV, -storeV, -Int.natCast_add, loadV_ip, h1, h2, h3, h4, h5, h6, h7, h8] <;> rfl) ?_)
                  simp
              · have e : validPl ⟨f, a, b, c⟩ = false := by simp [validPl, *]
                rw [e]
                refine bind_of him ?_
                simp only [plC]
                repeat (first
                  | rfl
                  | refine cond_t (by rfl) ?_
                  | refine cond_f (by rfl) ?_
                  | refine ite_of (by first | rfl | assumption) ?_
                  | refine bind_of (by simp [-loadV, -storeV, -Int.natCast_add, loadV_ip, h1, h2, h3, h4, h5, h6, h7] <;> rfl) ?_)
                simp
            · have e : validPl ⟨f, a, b, c⟩ = false := by simp [validPl, *]
              rw [e]
              refine bind_of him ?_
              simp only [plC]
              repeat (first
                | rfl
                | refine cond_t (by rfl) ?_
                | refine cond_f (by rfl) ?_
                | refine ite_of (by first | rfl | assumption) ?_
                | refine bind_of (by simp [-loadV, -storeV, -Int.natCast_add, loadV_ip, h1, h2, h3, h4, h5, h6] <;> rfl) ?_)
              simp
          · have e : validPl ⟨f, a, b, c⟩ = false := by simp [validPl, *]
            rw [e]
            refine bind_of him ?_
            simp only [plC]
            repeat (first
              | rfl
              | refine cond_t (by rfl) ?_
              | refine cond_f (by rfl) ?_
              | refine ite_of (by first | rfl | assumption) ?_
              | refine bind_of (by simp [-loadV, -storeV, -Int.natCast_add, loadV_ip, h1, h2, h3, h4, h5] <;> rfl) ?_)
            simp
        · have e : validPl ⟨f, a, b, c⟩ = false := by simp [validPl, *]
          rw [e]
          refine bind_of him ?_
          simp only [plC]
          repeat (first
            | rfl
            | refine cond_t (by rfl) ?_
            | refine cond_f (by rfl) ?_
            | refine ite_of (by first | rfl | assumption) ?_
            | refine bind_of (by simp [-loadV, -storeV, -Int.natCast_add, loadV_ip, h1, h2, h3, h4] <;> rfl) ?_)
          simp
      · have e : validPl ⟨f, a, b, c⟩ = false := by simp [validPl, *]
        rw [e]
        refine bind_of him ?_
        simp only [plC]
        repeat (first
          | rfl
          | refine cond_t (by rfl) ?_
          | refine cond_f (by rfl) ?_
          | refine ite_of (by first | rfl | assumption) ?_
          | refine bind_of (by simp [-loadV, -storeV, -Int.natCast_add, loadV_ip, h1, h2, h3] <;> rfl) ?_)
        simp
    · have e : validPl ⟨f, a, b, c⟩ = false := by simp [validPl, *]
      rw [e]
      refine bind_of him ?_
      simp only [plC]
      repeat (first
        | rfl
        | refine cond_t (by rfl) ?_
        | refine cond_f (by rfl) ?_
        | refine ite_of (by first | rfl | assumption) ?_
        | refine bind_of (by simp [-loadV, -storeV, -Int.natCast_add, loadV_ip, h1, h2] <;> rfl) ?_)
      simp
  · have e : validPl ⟨f, a, b, c⟩ = false := by simp [validPl, *]
    rw [e]
    refine bind_of him ?_
    simp only [plC]
    repeat (first
      | rfl
      | refine cond_t (by rfl) ?_
      | refine cond_f (by rfl) ?_
      | refine ite_of (by first | rfl | assumption) ?_
      | refine bind_of (by simp [-loadV, -storeV, -Int.natCast_add, loadV_ip, h1] <;> rfl) ?_)
    simp

end Go.Proofs.YtlilahgndpdkfaaDoor

/-
  What the functions of the reference of places answer: the weights of a place, its addresses, the normal place.
-/
namespace Go.Proofs.YtlilahgndpdkfaaDoor
open Go Go.Abs

theorem ix12 (cs : List AV) {k : Nat} (hk : k < 12) : indexAV 1 (some 12) (.ip cs 0) (.int .i64 (k : Int)) = some (.ip cs k) := by
  simp only [indexAV]
  rw [if_pos (by omega)]
  simp
theorem ix3_0 (cs : List AV) : indexAV 1 (some 3) (.ip cs 0) (.int .i64 0) = some (.ip cs 0) := rfl
theorem ix3_1 (cs : List AV) : indexAV 1 (some 3) (.ip cs 0) (.int .i64 1) = some (.ip cs 1) := rfl
theorem ix3_2 (cs : List AV) : indexAV 1 (some 3) (.ip cs 0) (.int .i64 2) = some (.ip cs 2) := rfl
theorem px12 (j : Nat) {k : Nat} (hk : k < 12) : indexAV 1 (some 12) (.ptr j 0) (.int .i64 (k : Int)) = some (.ptr j k) := by
  simp only [indexAV]
  rw [if_pos (by omega)]
  simp
theorem ld12 {w : List Int} (hw : w.length = 12) {k : Nat} (hk : k < 12) (S : Store) : loadV none (.ip (w.map i64) k) S = some (i64 (w.getD k 0)) := by
  rw [loadV_ip, take_none]
  simp [List.getD_eq_getElem?_getD, List.getElem?_eq_getElem (show k < w.length by omega)]
theorem imms_is (l : List Int) : imms (l.map i64) = some (l.map i64) := by
  induction l with
  | nil => rfl
  | cons a l ih => simp [ih]
theorem cells1_is (l : List Int) : cells1 (l.map i64) = some (l.map i64) := by
  induction l with
  | nil => rfl
  | cons a l ih => simp [ih]
theorem belows_is (n : Nat) (l : List Int) : belows n (l.map i64) = true := by
  induction l with
  | nil => rfl
  | cons a l ih => simp_all

/-- One number put into an entry of the call's own. -/
theorem put_is {S es : Store} {k o n : Nat} {w : List Int} {v : Int} (he : es[k]? = some (.obj (w.map i64))) (ho : o < w.length) (hn : n = S.length) :
    storeV n 1 (.ptr (S.length + k) o) (i64 v) (S ++ es) = some (S ++ es.set k (.obj ((w.set o v).map i64))) := by
  subst hn
  have h1 : (S ++ es)[S.length + k]? = some (.obj (w.map i64)) := by rw [List.getElem?_append_right (by omega)]; simpa using he
  simp only [storeV, h1, blt_false (Nat.le_add_right _ _), cond_false]
  rw [show cells1 (cellsOf (i64 v)) = some [i64 v] from rfl, Option.bind_some, if_pos ⟨rfl, by simp; omega⟩, List.set_append_right _ _ (by omega)]
  simp [setC, List.map_set]

set_option maxHeartbeats 4000000 in
theorem p_On {f : Int} (h1 : 0 ≤ f) (h2 : f < 20) {w : List Int} (hw : w.length = 12) (hb : ∀ k, 0 ≤ w.getD k 0 ∧ w.getD k 0 ≤ 840) (S : Store) :
    call 80 [i64 f, .agg (w.map i64)] S = some (.tup [.agg (plC (onA f w)), .bool (okA (onA f w))], S) := by
  rw [k80]
  unfold F80
  obtain ⟨c0, c1, c2, _, _, _, hc⟩ := corn_lt h1 h2
  have hC := p_Corners h1 h2 (S ++ [.obj [(.int .i64 0), (.int .i64 0), (.int .i64 0), (.int .i64 0)]])
  rw [hc] at hC
  have x0 := ix12 (w.map i64) c0
  have x1 := ix12 (w.map i64) c1
  have x2 := ix12 (w.map i64) c2
  have l0 := ld12 hw c0
  have l1 := ld12 hw c1
  have l2 := ld12 hw c2
  have b0 := hb (cor f 0)
  have b1 := hb (cor f 1)
  have b2 := hb (cor f 2)
  have e0 : onA f w = ⟨f, w.getD (cor f 0) 0, w.getD (cor f 1) 0, w.getD (cor f 2) 0⟩ := rfl
  rw [e0]
  generalize w.getD (cor f 0) 0 = p0 at *
  generalize w.getD (cor f 1) 0 = p1 at *
  generalize w.getD (cor f 2) 0 = p2 at *
  have w1 : IntKind.i64.wrap (p0 + p1) = p0 + p1 := wrap_in (by unfold In64; omega)
  have w2 : IntKind.i64.wrap (p0 + p1 + p2) = p0 + p1 + p2 := wrap_in (by unfold In64; omega)
  refine bind_of (imms_is w) ?_
  generalize cor f 0 = k0 at *
  generalize cor f 1 = k1 at *
  generalize cor f 2 = k2 at *
  generalize w.map i64 = W at *
  simp only [List.map_cons, List.map_nil] at hC
  repeat (first
    | rfl
    | refine cond_t (by rfl) ?_
    | refine cond_f (by rfl) ?_
    | refine ite_of (by first | rfl | assumption) ?_
    | refine bind_of (by simp [-loadV, -storeV, -Int.natCast_add, loadV_ip, hC, x0, x1, x2, l0, l1, l2, w1, w2, ix3_0, ix3_1, ix3_2] <;> rfl) ?_)
  exact Ap.ret2 (vs := [.int .i64 f, .int .i64 p0, .int .i64 p1, .int .i64 p2]) rfl rfl rfl (by simp) rfl rfl rfl (by simp)

theorem getD_map_i64 (l : List Int) (k : Nat) : (l.map i64).getD k (i64 0) = i64 (l.getD k 0) := by
  simp only [List.getD_eq_getElem?_getD, List.getElem?_map]
  cases l[k]? <;> rfl

set_option maxHeartbeats 4000000 in
theorem p_Weights {p : Pl} (h : validPl p = true) (S : Store) : call 79 [.agg (plC p)] S = some (.agg ((wts p).map i64), S) := by
  rw [k79]
  unfold F79
  obtain ⟨f1, f2, _⟩ := validPl_iff.1 h
  obtain ⟨c0, c1, c2, _, _, _, hc⟩ := corn_lt f1 f2
  obtain ⟨es, hes⟩ : ∃ es : Store, es = [.obj ((List.replicate 12 (0 : Int)).map i64), .obj ((List.replicate 12 (0 : Int)).map i64)] := ⟨_, rfl⟩
  have hC := p_Corners f1 f2 (S ++ es)
  rw [hc] at hC
  simp only [List.map_cons, List.map_nil] at hC
  have hS : S ++ [Ent.obj [(.int .i64 0), (.int .i64 0), (.int .i64 0), (.int .i64 0), (.int .i64 0), (.int .i64 0), (.int .i64 0), (.int .i64 0), (.int .i64 0), (.int .i64 0), (.int .i64 0), (.int .i64 0)]] ++ [Ent.obj [(.int .i64 0), (.int .i64 0), (.int .i64 0), (.int .i64 0), (.int .i64 0), (.int .i64 0), (.int .i64 0), (.int .i64 0), (.int .i64 0), (.int .i64 0), (.int .i64 0), (.int .i64 0)]] = S ++ es := by simp [hes, List.replicate]
  dsimp only
  rw [hS]
  have hl2 : (S ++ [Ent.obj [(.int .i64 0), (.int .i64 0), (.int .i64 0), (.int .i64 0), (.int .i64 0), (.int .i64 0), (.int .i64 0), (.int .i64 0), (.int .i64 0), (.int .i64 0), (.int .i64 0), (.int .i64 0)]]).length = S.length + 1 := by simp
  rw [hl2]
  refine bind_of imms_plC ?_
  have x0 := px12 (S.length + 1) c0
  have x1 := px12 (S.length + 1) c1
  have x2 := px12 (S.length + 1) c2
  have s0 := put_is (S := S) (es := es) (k := 1) (o := cor p.face 0) (w := List.replicate 12 0) (v := p.a) (by rw [hes]; rfl) (by simpa using c0) rfl
  rw [show es.set 1 (Ent.obj (((List.replicate 12 (0 : Int)).set (cor p.face 0) p.a).map i64)) = [.obj ((List.replicate 12 (0 : Int)).map i64), .obj (((List.replicate 12 (0 : Int)).set (cor p.face 0) p.a).map i64)] by rw [hes]; rfl] at s0
  have s1 := put_is (S := S) (es := [.obj ((List.replicate 12 (0 : Int)).map i64), .obj (((List.replicate 12 (0 : Int)).set (cor p.face 0) p.a).map i64)]) (k := 1) (o := cor p.face 1) (w := (List.replicate 12 0).set (cor p.face 0) p.a) (v := p.b) rfl (by simpa using c1) rfl
  have s2 := put_is (S := S) (es := [.obj ((List.replicate 12 (0 : Int)).map i64), .obj ((((List.replicate 12 (0 : Int)).set (cor p.face 0) p.a).set (cor p.face 1) p.b).map i64)]) (k := 1) (o := cor p.face 2) (w := ((List.replicate 12 0).set (cor p.face 0) p.a).set (cor p.face 1) p.b) (v := p.c) rfl (by simpa using c2) rfl
  have l1 := Ap.loadA (S := S) (es := [.obj ((List.replicate 12 (0 : Int)).map i64), .obj ((wts p).map i64)]) (k := 1) (n := 12) rfl (by simp)
  simp only [plC, List.set_cons_succ, List.set_cons_zero] at *
  clear hes hS hl2
  have hE : (((List.replicate 12 (0 : Int)).set (cor p.face 0) p.a).set (cor p.face 1) p.b).set (cor p.face 2) p.c = wts p := rfl
  rw [hE] at s2
  have rt := Ap.ret1 (S := S) (es := [.obj ((List.replicate 12 (0 : Int)).map i64), .obj ((wts p).map i64)]) (n := 12) (cs := (List.replicate 12 (0 : Int)).map i64) (vs := (wts p).map i64) rfl (cells1_is _) (imms_is _) (belows_is _ _) (by simp) (by simp)
  generalize (wts p).map i64 = E3 at *
  generalize (((List.replicate 12 (0 : Int)).set (cor p.face 0) p.a).set (cor p.face 1) p.b).map i64 = E2 at *
  generalize ((List.replicate 12 (0 : Int)).set (cor p.face 0) p.a).map i64 = E1 at *
  generalize (List.replicate 12 (0 : Int)).map i64 = E0 at *
  repeat (first
    | rfl
    | refine cond_t (by rfl) ?_
    | refine cond_f (by rfl) ?_
    | refine ite_of (by first | rfl | assumption) ?_
    | refine bind_of (by simp [-loadV, -storeV, -Int.natCast_add, loadV_ip, hC, x0, x1, x2, s0, s1, s2, ix3_0, ix3_1, ix3_2, l1] <;> rfl) ?_)
  exact rt

/-! ### All addresses -/

def adrsTo (p : Pl) (n : Nat) : List Pl := ((List.range n).map fun f => onA (f : Nat) (wts p)).filter okA
theorem adrsTo_succ (p : Pl) (n : Nat) : adrsTo p (n + 1) = adrsTo p n ++ (if okA (onA (n : Nat) (wts p)) then [onA (n : Nat) (wts p)] else []) := by
  simp only [adrsTo, List.range_succ, List.map_append, List.filter_append, List.map_cons, List.map_nil, List.filter_cons, List.filter_nil]
theorem adrsTo_le (p : Pl) (n : Nat) : (adrsTo p n).length ≤ n := by
  refine Nat.le_trans (List.length_filter_le _ _) ?_
  simp

set_option maxHeartbeats 4000000 in
theorem p_Addresses {p : Pl} (h : validPl p = true) (S : Store) : call 59 [.agg (plC p)] S = some (.tup [.sl (pls (addrs p)) .none, i64 0], S) := by
  rw [k59]
  unfold F59
  have hv := p_Valid p S
  rw [h] at hv
  have hw := p_Weights h S
  have ow : ownV 4 (.sl [] .full) S = some (.sl [] (.own S.length), S ++ [.tail 0 4]) := rfl
  have key := iter_run (step := fun s => F59_L1 call S.length (.ip ((wts p).map i64) 0) (s.1.getD 0 .u) (s.1.getD 1 .u) s.2) (fun k => ([.sl (pls (adrsTo p k)) (.own S.length), i64 (k : Nat)], S ++ [.tail (adrsTo p k).length 4])) (r := (Ex.exit 0, [.sl (pls (addrs p)) (.own S.length)], S ++ [.tail (addrs p).length 4])) 20 0
    (fun k _ hk => by
      have hk : k < 20 := by omega
      have hlt : (k : Int) < 20 := by omega
      have ho := p_On (f := (k : Int)) (w := wts p) (by omega) (by omega) wts_length (wts_get h) (S ++ [.tail (adrsTo p k).length 4])
      have w1 : IntKind.i64.wrap ((k : Int) + 1) = ((k + 1 : Nat) : Int) := by rw [wrap_in (by unfold In64; omega)]; omega
      have hl : takeC (some 12) ((wts p).map i64) 0 = some (.agg ((wts p).map i64)) := by rw [takeC, if_pos (by simp), List.drop_zero, List.take_of_length_le (by simp)]
      have him := imms_is (wts p)
      have hle := adrsTo_le p k
      have nx : ∀ vs n, nextS S.length (S.length + 1) vs (S ++ [.tail n 4]) = some (vs, S ++ [.tail n 4]) := fun vs n => nextS_eq (by simp)
      have ap : appendV 4 (.sl (pls (adrsTo p k)) (.own S.length)) (.sl [plC (onA (k : Nat) (wts p))] .full) (S ++ [.tail (adrsTo p k).length 4]) = some (.sl (pls (adrsTo p k) ++ [plC (onA (k : Nat) (wts p))]) (.own S.length), S ++ [.tail ((adrsTo p k).length + 1) 4]) := by
        have hi : immRows 4 [plC (onA (k : Nat) (wts p))] = some [plC (onA (k : Nat) (wts p))] := by simp [immRows]
        have hg : (S ++ [Ent.tail (adrsTo p k).length 4])[S.length]? = some (.tail (adrsTo p k).length 4) := Ap.get (k := 0)
        simp only [appendV, rowsOf_sl, Option.bind_some, hi, hg]
        rw [if_pos (by simp [room]; omega), if_pos ⟨by simp, trivial⟩, List.set_append_right _ _ (Nat.le_refl _)]
        simp
      have e1 : pls (adrsTo p k) ++ [plC (onA (k : Nat) (wts p))] = pls (adrsTo p k ++ [onA (k : Nat) (wts p)]) := by simp [pls]
      rw [adrsTo_succ]
      generalize adrsTo p k = A at *
      unfold F59_L1
      have hc : imms (plC (onA (k : Nat) (wts p))) = some (plC (onA (k : Nat) (wts p))) := imms_plC
      have hl4 : takeC (some 4) (plC (onA (k : Nat) (wts p))) 0 = some (.agg (plC (onA (k : Nat) (wts p)))) := rfl
      have hpl : (plC (onA (k : Nat) (wts p))).length = 4 := rfl
      have hbs : bsliceV 4 [plC (onA (k : Nat) (wts p))] = some (.sl [plC (onA (k : Nat) (wts p))] .full) := by simp [bsliceV, immRows]
      rw [List.length_append]
      generalize plC (onA (k : Nat) (wts p)) = q at *
      generalize (wts p).map i64 = W at *
      cases hok : okA (onA (k : Nat) (wts p)) with
      | true =>
        rw [hok] at ho
        simp only [if_true, List.length_singleton]
        rw [← e1]
        simp only [List.length_append, List.length_singleton] at *
        have nx' := nx
        unfold F59_J1
        repeat (first
          | rfl
          | refine cond_t (by rfl) ?_
          | refine cond_f (by rfl) ?_
          | refine ite_of (by first | rfl | assumption) ?_
          | refine bind_of (by simp [-loadV, -storeV, -Int.natCast_add, loadV_ip, hlt, hl, him, ho, hc, hl4, hpl, hbs, ap, ownV, w1, nx] <;> rfl) ?_)
      | false =>
        rw [hok] at ho
        simp only [Bool.false_eq_true, if_false, List.append_nil, List.length_nil, Nat.add_zero, List.length_append, List.length_singleton] at *
        unfold F59_J1
        repeat (first
          | rfl
          | refine cond_t (by rfl) ?_
          | refine cond_f (by rfl) ?_
          | refine ite_of (by first | rfl | assumption) ?_
          | refine bind_of (by simp [-loadV, -storeV, -Int.natCast_add, loadV_ip, hlt, hl, him, ho, hc, hl4, hpl, w1, nx] <;> rfl) ?_))
    (by
      simp [F59_L1]
      exact ⟨rfl, rfl⟩)
  have him := imms_is (wts p)
  have hpl : imms (cellsOf (.agg (plC p))) = some (plC p) := imms_plC
  have hl4 : takeC (some 4) (plC p) 0 = some (.agg (plC p)) := rfl
  have hc : imms (plC p) = some (plC p) := imms_plC
  have hlen : ((wts p).map i64).length = 12 := by simp
  have hb : Nat.blt S.length S.length = false := blt_false (Nat.le_refl _)
  simp only [Int.natCast_zero, i64] at key
  have e0 : adrsTo p 0 = [] := rfl
  rw [e0] at key
  generalize addrs p = A at *
  have hpc : (plC p).length = 4 := rfl
  have fin : finish false S.length [.sl (pls A) (.own S.length), .int .i64 0] (S ++ [.tail A.length 4]) = some (.tup [.sl (pls A) .none, i64 0], S) := by
    simp [finish, hb]
  generalize (wts p).map i64 = W at *
  generalize plC p = q at *
  refine bind_of hpl ?_
  repeat (first
    | rfl
    | refine cond_t (by rfl) ?_
    | refine cond_f (by rfl) ?_
    | refine ite_of (by first | rfl | assumption) ?_
    | refine bind_of (by simp [-loadV, -storeV, -Int.natCast_add, loadV_ip, hl4, hc, hv, hw, him, hlen, ow] <;> rfl) ?_)
  refine bind_of key ?_
  exact fin

theorem p_Normal {p : Pl} (h : validPl p = true) (S : Store) : call 46 [.agg (plC p)] S = some (.tup [.agg (plC (normP p)), i64 0], S) := by
  rw [k46]
  unfold F46
  have hA := p_Addresses h (S ++ [.obj [(.int .i64 0), (.int .i64 0), (.int .i64 0), (.int .i64 0)]])
  obtain ⟨q, l, hq⟩ : ∃ q l, addrs p = q :: l := by
    cases ha : addrs p with
    | nil => exact absurd ha (addrs_ne h)
    | cons q l => exact ⟨q, l, rfl⟩
  have hn : normP p = q := by unfold normP; rw [hq]; rfl
  rw [hn]
  rw [hq] at hA
  have hix : indexAV 4 none (.sl (pls (q :: l)) .none) (.int .i64 0) = some (.ip (plC q) 0) := rfl
  have hl4 : takeC (some 4) (plC q) 0 = some (.agg (plC q)) := rfl
  have hl4' : takeC (some 4) (plC p) 0 = some (.agg (plC p)) := rfl
  have hc : imms (plC p) = some (plC p) := imms_plC
  have rt := Ap.ret2 (S := S) (es := [.obj [(.int .i64 0), (.int .i64 0), (.int .i64 0), (.int .i64 0)]]) (n := 4) (vs := plC q) (x := .int .i64 0) rfl cells1_plC imms_plC (by simp [plC]) rfl rfl rfl (by simp)
  generalize plC q = c at *
  refine bind_of (show imms (cellsOf (.agg (plC p))) = some (plC p) from hc) ?_
  generalize plC p = d at *
  repeat (first
    | rfl
    | refine cond_t (by rfl) ?_
    | refine cond_f (by rfl) ?_
    | refine ite_of (by first | rfl | assumption) ?_
    | refine bind_of (by simp [-loadV, -storeV, -Int.natCast_add, loadV_ip, hl4', hc, hA, hix, hl4] <;> rfl) ?_)
  exact rt

end Go.Proofs.YtlilahgndpdkfaaDoor

/-
  What the makers of given data answer: places.
-/
namespace Go.Proofs.YtlilahgndpdkfaaDoor
open Go Go.Abs

section
variable {S : Store} {i : Nat} {L : List Int}

abbrev plE (p : Pl) : Store := [.obj [.int .i64 0, .int .i64 0, .int .i64 0, .int .i64 0], .obj (plC p)]

theorem pl_put {a k : Nat} {p q : Pl} {v : Int} (hk : k < 4) (h : (plC p).set k (i64 v) = plC q) :
    storeV S.length 1 (.ptr (S.length + 1) k) (i64 v) (Sr S i L a (plE p)) = some (Sr S i L a (plE q)) := by
  have := Stt.store (S := S) (i := i) (e := srcE L a) (es := plE p) (k := 1) (o := k) (n := 1) (v := i64 v) (cs := plC p) (vs := [i64 v]) rfl rfl rfl (by simp; omega)
  rw [this]
  simp only [setC, h, plE, List.set_cons_succ, List.set_cons_zero]

theorem pl_get {a k : Nat} {p : Pl} {v : Int} (h : (plC p)[k]? = some (i64 v)) : loadV none (.ptr (S.length + 1) k) (Sr S i L a (plE p)) = some (i64 v) := by
  rw [Stt.load (k := 1) (cs := plC p) rfl, take_none, h]

def MadeP (v : AV) : Prop := ∃ p : Pl, validPl p = true ∧ v = .agg (plC (normP p))

set_option maxHeartbeats 2000000 in
theorem g_PlaceJ2 {a : Nat} {p : Pl} (hs : Sc S i L a) (h1 : 0 ≤ p.face) (h2 : p.face < 20) (h3 : 0 ≤ p.a) (h4 : 0 ≤ p.b) (h5 : p.a + p.b ≤ 840) :
    Ev (F32_J2 call S.length (.ptr S.length 0) (.ptr (S.length + 1) 0) (Sr S i L a (plE p))) fun r => ∃ v a', Sc S i L a' ∧ MadeP v ∧ r = (v, Sr S i L a' []) := by
  unfold F32_J2
  have g1 := pl_get (S := S) (i := i) (L := L) (a := a) (k := 1) (p := p) (v := p.a) rfl
  have g2 := pl_get (S := S) (i := i) (L := L) (a := a) (k := 2) (p := p) (v := p.b) rfl
  let q : Pl := ⟨p.face, p.a, p.b, 840 - p.a - p.b⟩
  have hq : validPl q = true := validPl_iff.2 ⟨h1, h2, h3, by show p.a ≤ 840; omega, h4, by show p.b ≤ 840; omega, by show 0 ≤ 840 - p.a - p.b; omega, by show 840 - p.a - p.b ≤ 840; omega, by show p.a + p.b + (840 - p.a - p.b) = 840; omega⟩
  have s1 := pl_put (S := S) (i := i) (L := L) (a := a) (k := 3) (p := p) (q := q) (v := 840 - p.a - p.b) (by omega) rfl
  have l1 := Stt.loadA (S := S) (i := i) (e := srcE L a) (k := 1) (es := plE q) (n := 4) rfl rfl
  have hn := p_Normal hq (Sr S i L a (plE q))
  have hc : imms (plC q) = some (plC q) := imms_plC
  have hc2 : imms (plC (normP q)) = some (plC (normP q)) := imms_plC
  have hl2 : takeC (some 4) (plC (normP q)) 0 = some (.agg (plC (normP q))) := rfl
  have st := Stt.storeA0 (S := S) (i := i) (e := srcE L a) (es := plE q) (n := 4) rfl (cells1_plC (p := normP q)) rfl rfl
  have l2 := Stt.loadA0 (S := S) (i := i) (e := srcE L a) (es := [.obj (plC (normP q)), .obj (plC q)]) (n := 4) rfl rfl
  have hlen : (plC (normP q)).length = 4 := rfl
  have hb : belows S.length (plC (normP q)) = true := by simp [plC]
  have hQ : MadeP (.agg (plC (normP q))) := ⟨q, hq, rfl⟩
  simp only [List.set_cons_zero] at st
  clear_value q
  generalize plC (normP q) = c at *
  have hcq : imms (plC q) = some (plC q) := hc
  generalize plC q = d at *
  repeat (first
    | refine Ev.fin (by simp [g1, g2, s1, l1, hc, hn, hc2, hl2, st, l2, hb] <;> rfl) (by simp [g1, g2, s1, l1, hc, hn, hc2, hl2, st, l2, hb]) ?_
    | refine Ev.t (by rfl) ?_
    | refine Ev.f (by rfl) ?_
    | refine Ev.ite (by first | rfl | assumption) ?_
    | refine Ev.to (by simp (disch := omega) [-loadV, -storeV, -Int.natCast_add, loadV_ip, g1, g2, s1, l1, hc, hn, hc2, hl2, st, l2, hb] <;> rfl) ?_)
  exact ⟨_, a, hs, hQ, rfl⟩

set_option maxHeartbeats 2000000 in
theorem g_PlaceJ1 {a : Nat} {p : Pl} (hs : Sc S i L a) (h1 : 0 ≤ p.face) (h2 : p.face < 20) (h3 : 0 ≤ p.a) (h5 : p.a ≤ 840) :
    Ev (F32_J1 call S.length (.ptr i 0) (.ptr S.length 0) (.ptr (S.length + 1) 0) (Sr S i L a (plE p))) fun r => ∃ v a', Sc S i L a' ∧ MadeP v ∧ r = (v, Sr S i L a' []) := by
  unfold F32_J1
  have g1 := pl_get (S := S) (i := i) (L := L) (a := a) (k := 1) (p := p) (v := p.a) rfl
  repeat (first
    | refine Ev.fin (by simp [g1] <;> rfl) (by simp [g1]) ?_
    | refine Ev.t (by rfl) ?_
    | refine Ev.f (by rfl) ?_
    | refine Ev.ite (by first | rfl | assumption) ?_
    | refine Ev.to (by simp (disch := omega) [-loadV, -storeV, -Int.natCast_add, loadV_ip, g1] <;> rfl) ?_)
  refine Ev.bind (e_N (by assumption) (by omega) (by omega)) ?_
  rintro _ ⟨v1, a1, k1, b1, b2, rfl⟩
  try dsimp only
  have s1 := pl_put (S := S) (i := i) (L := L) (a := a1) (k := 2) (p := p) (q := { p with b := v1 }) (v := v1) (by omega) rfl
  repeat (first
    | refine Ev.fin (by simp [s1] <;> rfl) (by simp [s1]) ?_
    | refine Ev.t (by rfl) ?_
    | refine Ev.f (by rfl) ?_
    | refine Ev.ite (by first | rfl | assumption) ?_
    | refine Ev.to (by simp (disch := omega) [-loadV, -storeV, -Int.natCast_add, loadV_ip, s1] <;> rfl) ?_)
  refine Ev.bind (e_N (by assumption) (by omega) (by omega)) ?_
  rintro _ ⟨v2, a2, k2, _, _, rfl⟩
  try dsimp only
  repeat (first
    | refine Ev.fin (by simp [] <;> rfl) (by simp []) ?_
    | refine Ev.t (by rfl) ?_
    | refine Ev.f (by rfl) ?_
    | refine Ev.ite (by first | rfl | assumption) ?_
    | refine Ev.to (by simp (disch := omega) [-loadV, -storeV, -Int.natCast_add, loadV_ip] <;> rfl) ?_)
  have e0 : ∀ a, loadV none (.ptr (S.length + 1) 2) (Sr S i L a (plE { p with b := v1 })) = some (i64 v1) := fun a => pl_get rfl
  refine Ev.beq (fun _ => ?_) (fun _ => ?_)
  · have e1 := e0 a2
    have hm := Int.tmod_nonneg 105 b1
    have hm2 : v1.tmod 105 ≤ v1 := by
      rw [Int.tmod_eq_emod_of_nonneg b1]
      omega
    have s2 := pl_put (S := S) (i := i) (L := L) (a := a2) (k := 2) (p := { p with b := v1 }) (q := { p with b := v1 - v1.tmod 105 }) (v := v1 - v1.tmod 105) (by omega) rfl
    repeat (first
      | refine Ev.fin (by simp [e1, s2] <;> rfl) (by simp [e1, s2]) ?_
      | refine Ev.t (by rfl) ?_
      | refine Ev.f (by rfl) ?_
      | refine Ev.ite (by first | rfl | assumption) ?_
      | refine Ev.to (by simp (disch := omega) [-loadV, -storeV, -Int.natCast_add, loadV_ip, e1, s2] <;> rfl) ?_)
    exact g_PlaceJ2 k2 h1 h2 h3 (by show 0 ≤ v1 - v1.tmod 105; omega) (by show p.a + (v1 - v1.tmod 105) ≤ 840; omega)
  · exact g_PlaceJ2 k2 h1 h2 h3 b1 (by show p.a + v1 ≤ 840; omega)

end

set_option maxHeartbeats 2000000 in
theorem g_Place (i : Nat) : Maker 32 [.ptr i 0] i MadeP := by
  intro S L a hs
  unfold Mk
  rw [k32]
  unfold F32
  simp only [Stt.length, List.length_nil, Nat.add_zero, Stt.app, List.nil_append]
  repeat (first
    | refine Ev.fin (by simp [] <;> rfl) (by simp []) ?_
    | refine Ev.t (by rfl) ?_
    | refine Ev.f (by rfl) ?_
    | refine Ev.ite (by first | rfl | assumption) ?_
    | refine Ev.to (by simp (disch := omega) [-loadV, -storeV, -Int.natCast_add, loadV_ip] <;> rfl) ?_)
  refine Ev.bind (e_N (by assumption) (by omega) (by omega)) ?_
  rintro _ ⟨v1, a1, k1, b1, b2, rfl⟩
  try dsimp only
  repeat (first
    | refine Ev.fin (by simp [] <;> rfl) (by simp []) ?_
    | refine Ev.t (by rfl) ?_
    | refine Ev.f (by rfl) ?_
    | refine Ev.ite (by first | rfl | assumption) ?_
    | refine Ev.to (by simp (disch := omega) [-loadV, -storeV, -Int.natCast_add, loadV_ip] <;> rfl) ?_)
  refine Ev.bind (e_N (by assumption) (by omega) (by omega)) ?_
  rintro _ ⟨v2, a2, k2, c1, c2, rfl⟩
  try dsimp only
  repeat (first
    | refine Ev.fin (by simp [] <;> rfl) (by simp []) ?_
    | refine Ev.t (by rfl) ?_
    | refine Ev.f (by rfl) ?_
    | refine Ev.ite (by first | rfl | assumption) ?_
    | refine Ev.to (by simp (disch := omega) [-loadV, -storeV, -Int.natCast_add, loadV_ip] <;> rfl) ?_)
  simp only [Stt.length, Stt.app, List.length_cons, List.length_nil, Nat.zero_add, List.cons_append, List.nil_append]
  repeat (first
    | refine Ev.fin (by simp [] <;> rfl) (by simp []) ?_
    | refine Ev.t (by rfl) ?_
    | refine Ev.f (by rfl) ?_
    | refine Ev.ite (by first | rfl | assumption) ?_
    | refine Ev.to (by simp (disch := omega) [-loadV, -storeV, -Int.natCast_add, loadV_ip] <;> rfl) ?_)
  refine Ev.bind (e_N (by assumption) (by omega) (by omega)) ?_
  rintro _ ⟨v3, a3, k3, _, _, rfl⟩
  try dsimp only
  repeat (first
    | refine Ev.fin (by simp [] <;> rfl) (by simp []) ?_
    | refine Ev.t (by rfl) ?_
    | refine Ev.f (by rfl) ?_
    | refine Ev.ite (by first | rfl | assumption) ?_
    | refine Ev.to (by simp (disch := omega) [-loadV, -storeV, -Int.natCast_add, loadV_ip] <;> rfl) ?_)
  have hp : ∀ (a : Nat) (v : Int), [Ent.obj [.int .i64 0, .int .i64 0, .int .i64 0, .int .i64 0], Ent.obj [i64 v1, i64 v, .int .i64 0, .int .i64 0]] = plE ⟨v1, v, 0, 0⟩ := fun _ _ => rfl
  have sp : ∀ (a : Nat) (v : Int), storeV S.length 1 (.ptr (S.length + 1) 1) (i64 v) (Sr S i L a (plE ⟨v1, v2, 0, 0⟩)) = some (Sr S i L a (plE ⟨v1, v, 0, 0⟩)) := fun a v => pl_put (by omega) rfl
  refine Ev.beq (fun _ => ?_) (fun _ => ?_)
  · skip
    repeat (first
      | refine Ev.fin (by simp [] <;> rfl) (by simp []) ?_
      | refine Ev.t (by rfl) ?_
      | refine Ev.f (by rfl) ?_
      | refine Ev.ite (by first | rfl | assumption) ?_
      | refine Ev.to (by simp (disch := omega) [-loadV, -storeV, -Int.natCast_add, loadV_ip] <;> rfl) ?_)
    refine Ev.bind (e_N (by assumption) (by omega) (by omega)) ?_
    rintro _ ⟨v4, a4, k4, _, _, rfl⟩
    try dsimp only
    repeat (first
      | refine Ev.fin (by simp [] <;> rfl) (by simp []) ?_
      | refine Ev.t (by rfl) ?_
      | refine Ev.f (by rfl) ?_
      | refine Ev.ite (by first | rfl | assumption) ?_
      | refine Ev.to (by simp (disch := omega) [-loadV, -storeV, -Int.natCast_add, loadV_ip] <;> rfl) ?_)
    refine Ev.to (sp a4 (105 * v4)) ?_
    exact g_PlaceJ1 (p := ⟨v1, 105 * v4, 0, 0⟩) k4 b1 b2 (by show 0 ≤ 105 * v4; omega) (by show 105 * v4 ≤ 840; omega)
  · skip
    repeat (first
      | refine Ev.fin (by simp [] <;> rfl) (by simp []) ?_
      | refine Ev.t (by rfl) ?_
      | refine Ev.f (by rfl) ?_
      | refine Ev.ite (by first | rfl | assumption) ?_
      | refine Ev.to (by simp (disch := omega) [-loadV, -storeV, -Int.natCast_add, loadV_ip] <;> rfl) ?_)
    refine Ev.beq (fun _ => ?_) (fun _ => ?_)
    · skip
      repeat (first
        | refine Ev.fin (by simp [] <;> rfl) (by simp []) ?_
        | refine Ev.t (by rfl) ?_
        | refine Ev.f (by rfl) ?_
        | refine Ev.ite (by first | rfl | assumption) ?_
        | refine Ev.to (by simp (disch := omega) [-loadV, -storeV, -Int.natCast_add, loadV_ip] <;> rfl) ?_)
      refine Ev.bind (e_N (by assumption) (by omega) (by omega)) ?_
      rintro _ ⟨v4, a4, k4, _, _, rfl⟩
      try dsimp only
      repeat (first
        | refine Ev.fin (by simp [] <;> rfl) (by simp []) ?_
        | refine Ev.t (by rfl) ?_
        | refine Ev.f (by rfl) ?_
        | refine Ev.ite (by first | rfl | assumption) ?_
        | refine Ev.to (by simp (disch := omega) [-loadV, -storeV, -Int.natCast_add, loadV_ip] <;> rfl) ?_)
      refine Ev.to (sp a4 (210 * v4)) ?_
      exact g_PlaceJ1 (p := ⟨v1, 210 * v4, 0, 0⟩) k4 b1 b2 (by show 0 ≤ 210 * v4; omega) (by show 210 * v4 ≤ 840; omega)
    · exact g_PlaceJ1 (p := ⟨v1, v2, 0, 0⟩) k3 b1 b2 c1 (by show v2 ≤ 840; omega)

end Go.Proofs.YtlilahgndpdkfaaDoor

/-
  What the makers of given data answer: reports in which one thing is changed.
-/
namespace Go.Proofs.YtlilahgndpdkfaaDoor
open Go Go.Abs

def repV (r : Rep) (v : AV) : List AV := [i64 r.kind, .str r.name, i64 r.time, i64 r.face, i64 r.pa, i64 r.pb, i64 r.pc, v]

theorem flat_rds : ∀ (n : Nat) (l : List Int), l.length = n * 2 → ∃ rd : List Rd, rd.length = n ∧ (rds rd).flatten = l.map i64
  | 0, l, h => by
    have : l = [] := List.eq_nil_of_length_eq_zero (by omega)
    subst this; exact ⟨[], rfl, rfl⟩
  | n + 1, [], h => by simp at h
  | n + 1, [_], h => by simp at h; omega
  | n + 1, a :: b :: l, h => by
    obtain ⟨rd, h1, h2⟩ := flat_rds n l (by simp at h; omega)
    exact ⟨(a, b) :: rd, by simp [h1], by simp [rds_cons, h2]⟩

theorem rds_flat (l : List Rd) : (rds l).flatten = (l.flatMap fun r => [r.1, r.2]).map i64 := by
  induction l with
  | nil => rfl
  | cons r l ih => simp [rds_cons, ih]

/-- The entries: the report that is changed, the result, the readings. -/
structure BE (S : Store) (es : Store) (r : Rep) (v : AV) : Prop where
  e0 : es[0]? = some (.obj (repV r v))
  e1 : es[1]? = some (.obj [.int .i64 0, .str [], .int .i64 0, .int .i64 0, .int .i64 0, .int .i64 0, .int .i64 0, .sl [] .full])
  rd : (v = .sl [] .full ∧ r.rd = []) ∨ (r.rd ≠ [] ∧ ∃ m, 2 ≤ m ∧ v = .osl (S.length + m) 0 r.rd.length 2 ∧ es[m]? = some (.obj (rds r.rd).flatten))

section
variable {S : Store} {i : Nat} {L : List Int} {es : Store} {r : Rep} {v : AV}

theorem BE.lt (h : BE S es r v) : 2 ≤ es.length := by
  have := (List.getElem?_eq_some_iff.1 h.e1).1
  omega

/-- A field turned. -/
theorem BE.put (h : BE S es r v) {r' : Rep} (hr : r'.rd = r.rd) : BE S (es.set 0 (.obj (repV r' v))) r' v := by
  have := h.lt
  refine ⟨by rw [List.getElem?_set_self (by omega)], by rw [List.getElem?_set_ne (by omega)]; exact h.e1, ?_⟩
  rw [hr]
  rcases h.rd with h1 | ⟨h1, m, h2, h3, h4⟩
  · exact .inl h1
  · exact .inr ⟨h1, m, h2, h3, by rw [List.getElem?_set_ne (by omega)]; exact h4⟩

theorem BE.store (h : BE S es r v) {a k : Nat} {w : AV} {r' : Rep} (hk : k < 8) (hw : cells1 (cellsOf w) = some [w]) (hl : (cellsOf w).length = 1) (hr : r'.rd = r.rd) (he : (repV r v).set k w = repV r' v) :
    storeV S.length 1 (.ptr S.length k) w (Sr S i L a es) = some (Sr S i L a (es.set 0 (.obj (repV r' v)))) := by
  rw [Stt.store0 h.e0 hw hl (by simp [repV]; omega)]
  simp only [setC, he]

theorem take_len {es : Store} {n : Nat} (h : es.length = n) : es.take n = es := by rw [← h, List.take_length]

theorem b_J1 {a : Nat} (h : BE S es r v) : F16_J1 call S.length (.ptr S.length 0) (.ptr (S.length + 1) 0) (Sr S i L a es) = some (.agg (repR r), Sr S i L a []) := by
  unfold F16_J1
  have l1 := Stt.loadA0 (S := S) (i := i) (e := srcE L a) (n := 8) h.e0 (by simp [repV])
  refine bind_of l1 ?_
  have hlt := h.lt
  have hb : belows S.length (repR r) = true := by simp [repR]
  rcases h.rd with ⟨rfl, h2⟩ | ⟨h1, m, h2, rfl, h4⟩
  · have hf : freezeV (.agg (repV r (.sl [] .full))) (Sr S i L a es) = some (.agg (repV r (.sl [] .full)), Sr S i L a es) := by
      simp [freezeV, repV, isOsl, List.findIdx_cons]
    have st := Stt.storeA (S := S) (i := i) (e := srcE L a) (k := 1) (n := 8) (vs := repV r (.sl [] .full)) h.e1 (by simp [repV]) (by simp [repV]) (by simp)
    have l2 := Stt.loadA (S := S) (i := i) (e := srcE L a) (k := 1) (es := es.set 1 (.obj (repV r (.sl [] .full)))) (n := 8) (cs := repV r (.sl [] .full)) (by rw [List.getElem?_set_self (by omega)]) (by simp [repV])
    refine bind_of hf (bind_of st (bind_of (bind_of l2 rfl) ?_))
    have him : imms (repV r (.sl [] .full)) = some (repR r) := by simp [repV, repR, h2]
    rw [Stt.finish (vs' := [.agg (repR r)]) (by simp only [fins, fin1, him, Option.bind_some]) (by simp [hb])]
    rfl
  · have hro : rowsOf (.osl (S.length + m) 0 r.rd.length 2) (Sr S i L a es) = some (rds r.rd) := by
      have := rowsOf_flat (S := Sr S i L a es) (i := S.length + m) (sz := 2) (xs := rds r.rd) (by rw [Stt.own]; exact h4) (fun x hx => (rds_row x hx).1)
      rwa [rds_length] at this
    have hf : freezeV (.agg (repV r (.osl (S.length + m) 0 r.rd.length 2))) (Sr S i L a es) = some (.agg (repR r), Sr S i L a (es.set m .dead)) := by
      have hix : (repV r (.osl (S.length + m) 0 r.rd.length 2)).findIdx isOsl = 7 := by simp [repV, isOsl, List.findIdx_cons]
      simp only [freezeV, hix]
      have : (repV r (.osl (S.length + m) 0 r.rd.length 2))[7]? = some (.osl (S.length + m) 0 r.rd.length 2) := rfl
      simp only [this, hro, Option.bind_some, immRows_self rds_row, Stt.set_own]
      rfl
    have st := Stt.storeA (S := S) (i := i) (e := srcE L a) (es := es.set m .dead) (k := 1) (n := 8) (vs := repR r) (by rw [List.getElem?_set_ne (by omega)]; exact h.e1) (by simp [repR]) (by simp) (by simp)
    have l2 := Stt.loadA (S := S) (i := i) (e := srcE L a) (k := 1) (es := (es.set m .dead).set 1 (.obj (repR r))) (n := 8) (cs := repR r) (by rw [List.getElem?_set_self (by simp; omega)]) (by simp)
    refine bind_of hf (bind_of st (bind_of (bind_of l2 rfl) ?_))
    rw [Stt.finish (vs' := [.agg (repR r)]) (by simp only [fins, fin1, imms_repR, Option.bind_some]) (by simp [hb])]
    rfl

/-- What a change comes to: a report with at most one reading more. -/
def BentP (r : Rep) (v : AV) : Prop := ∃ r' : Rep, v = .agg (repR r') ∧ r'.rd.length ≤ r.rd.length + 1

end

set_option maxHeartbeats 4000000 in
theorem g_Bent (r : Rep) (hr : r.rd.length ≤ 1000000) (i : Nat) : Maker 16 [.ptr i 0, .agg (repR r)] i (BentP r) := by
  intro S L a hs
  have hlt := hs.lt
  unfold Mk
  rw [k16]
  unfold F16
  simp only [Stt.length, List.length_nil, Nat.add_zero]
  refine Ev.to (a := repR r) (by simp [repR]) ?_
  simp only [Stt.app, List.nil_append, List.cons_append, Stt.length, List.length_cons, List.length_nil, Nat.zero_add]
  refine Ev.to (a := .sl [] .full) rfl ?_
  refine Ev.to rfl ?_
  refine Ev.to (a := .sl (rds r.rd) .none) (by rw [Stt.load0 (cs := repR r) rfl]; rfl) ?_
  -- the row of readings
  have hap : ∃ v es, appendMV 2 (.sl [] .full) (.sl (rds r.rd) .none) (Sr S i L a [.obj (repR r), .obj [.int .i64 0, .str [], .int .i64 0, .int .i64 0, .int .i64 0, .int .i64 0, .int .i64 0, .sl [] .full]]) = some (v, Sr S i L a es) ∧
      storeV S.length 1 (.ptr S.length 7) v (Sr S i L a es) = some (Sr S i L a (es.set 0 (.obj (repV r v)))) ∧ BE S (es.set 0 (.obj (repV r v))) r v := by
    have hrow : immRows 2 (rds r.rd) = some (rds r.rd) := immRows_self rds_row
    cases hrd : r.rd with
    | nil =>
      refine ⟨.sl [] .full, _, rfl, ?_, ⟨rfl, rfl, .inl ⟨rfl, hrd⟩⟩⟩
      exact Stt.store0 (o := 7) (n := 1) (v := .sl [] .full) (cs := repR r) (vs := [.sl [] .full]) rfl rfl rfl (by simp)
    | cons x l =>
      rw [← hrd]
      have hne : r.rd ≠ [] := by rw [hrd]; simp
      refine ⟨.osl (S.length + 2) 0 r.rd.length 2, [.obj (repR r), .obj [.int .i64 0, .str [], .int .i64 0, .int .i64 0, .int .i64 0, .int .i64 0, .int .i64 0, .sl [] .full], .obj (rds r.rd).flatten], ?_, ?_, ⟨rfl, rfl, .inr ⟨hne, 2, by omega, rfl, rfl⟩⟩⟩
      · have hem : (rds r.rd).isEmpty = false := by rw [hrd]; rfl
        simp only [appendMV, rowsOf_sl, Option.bind_some, hrow, hem, cond_false, Stt.length, Stt.app, rds_length]
        rw [if_pos (by simp [room]; omega)]
        rfl
      · exact Stt.store0 (o := 7) (n := 1) (v := .osl (S.length + 2) 0 r.rd.length 2) (cs := repR r) (vs := [.osl (S.length + 2) 0 r.rd.length 2]) rfl rfl rfl (by simp)
  obtain ⟨v, es, h1, h2, h3⟩ := hap
  refine Ev.to h1 (Ev.to rfl (Ev.to h2 ?_))
  generalize hes : es.set 0 (.obj (repV r v)) = es1 at *
  repeat (first
    | refine Ev.fin (by simp [] <;> rfl) (by simp []) ?_
    | refine Ev.t (by rfl) ?_
    | refine Ev.f (by rfl) ?_
    | refine Ev.ite (by first | rfl | assumption) ?_
    | refine Ev.to (by simp (disch := omega) [-loadV, -storeV, -Int.natCast_add, loadV_ip] <;> rfl) ?_)
  refine Ev.bind (e_N (by assumption) (by omega) (by omega)) ?_
  rintro _ ⟨v1, a1, k1, _, _, rfl⟩
  try dsimp only
  repeat (first
    | refine Ev.fin (by simp [] <;> rfl) (by simp []) ?_
    | refine Ev.t (by rfl) ?_
    | refine Ev.f (by rfl) ?_
    | refine Ev.ite (by first | rfl | assumption) ?_
    | refine Ev.to (by simp (disch := omega) [-loadV, -storeV, -Int.natCast_add, loadV_ip] <;> rfl) ?_)
  have done : ∀ (a : Nat) (es2 : Store) (r2 : Rep) (v2 : AV), Sc S i L a → BE S es2 r2 v2 → r2.rd.length ≤ r.rd.length + 1 → Ev (F16_J1 call S.length (.ptr S.length 0) (.ptr (S.length + 1) 0) (Sr S i L a es2)) fun q => ∃ v a', Sc S i L a' ∧ BentP r v ∧ q = (v, Sr S i L a' []) :=
    fun a es2 r2 v2 hs hb hl => .of (b_J1 hb) ⟨_, a, hs, ⟨r2, rfl, hl⟩, rfl⟩
  refine Ev.beq (fun _ => ?_) (fun _ => ?_)
  · skip
    repeat (first
      | refine Ev.fin (by simp [] <;> rfl) (by simp []) ?_
      | refine Ev.t (by rfl) ?_
      | refine Ev.f (by rfl) ?_
      | refine Ev.ite (by first | rfl | assumption) ?_
      | refine Ev.to (by simp (disch := omega) [-loadV, -storeV, -Int.natCast_add, loadV_ip] <;> rfl) ?_)
    refine Ev.bind (e_Range (by assumption) (by omega) (by omega) (by omega)) ?_
    rintro _ ⟨v2, a2, k2, _, _, rfl⟩
    try dsimp only
    refine Ev.to rfl (Ev.to (h3.store (w := i64 v2) (r' := { r with kind := v2 }) (by omega) rfl rfl rfl rfl) ?_)
    exact done _ _ { r with kind := v2 } _ k2 (h3.put rfl) (by simp)
  · skip
    repeat (first
      | refine Ev.fin (by simp [] <;> rfl) (by simp []) ?_
      | refine Ev.t (by rfl) ?_
      | refine Ev.f (by rfl) ?_
      | refine Ev.ite (by first | rfl | assumption) ?_
      | refine Ev.to (by simp (disch := omega) [-loadV, -storeV, -Int.natCast_add, loadV_ip] <;> rfl) ?_)
    refine Ev.beq (fun _ => ?_) (fun _ => ?_)
    · skip
      repeat (first
        | refine Ev.fin (by simp [] <;> rfl) (by simp []) ?_
        | refine Ev.t (by rfl) ?_
        | refine Ev.f (by rfl) ?_
        | refine Ev.ite (by first | rfl | assumption) ?_
        | refine Ev.to (by simp (disch := omega) [-loadV, -storeV, -Int.natCast_add, loadV_ip] <;> rfl) ?_)
      refine Ev.bind (e_Text (by assumption) (by simp) (by simp) (by simp)) ?_
      rintro _ ⟨v2, a2, k2, _, rfl⟩
      try dsimp only
      refine Ev.to rfl (Ev.to (h3.store (w := .str v2) (r' := { r with name := v2 }) (by omega) rfl rfl rfl rfl) ?_)
      exact done _ _ { r with name := v2 } _ k2 (h3.put rfl) (by simp)
    · skip
      repeat (first
        | refine Ev.fin (by simp [] <;> rfl) (by simp []) ?_
        | refine Ev.t (by rfl) ?_
        | refine Ev.f (by rfl) ?_
        | refine Ev.ite (by first | rfl | assumption) ?_
        | refine Ev.to (by simp (disch := omega) [-loadV, -storeV, -Int.natCast_add, loadV_ip] <;> rfl) ?_)
      refine Ev.beq (fun _ => ?_) (fun _ => ?_)
      · skip
        repeat (first
          | refine Ev.fin (by simp [] <;> rfl) (by simp []) ?_
          | refine Ev.t (by rfl) ?_
          | refine Ev.f (by rfl) ?_
          | refine Ev.ite (by first | rfl | assumption) ?_
          | refine Ev.to (by simp (disch := omega) [-loadV, -storeV, -Int.natCast_add, loadV_ip] <;> rfl) ?_)
        refine Ev.bind (e_Pick (by assumption) (by simp) (by simp) (by simp)) ?_
        rintro _ ⟨v2, a2, k2, _, rfl⟩
        try dsimp only
        refine Ev.to rfl (Ev.to (h3.store (w := i64 v2) (r' := { r with time := v2 }) (by omega) rfl rfl rfl rfl) ?_)
        exact done _ _ { r with time := v2 } _ k2 (h3.put rfl) (by simp)
      · skip
        repeat (first
          | refine Ev.fin (by simp [] <;> rfl) (by simp []) ?_
          | refine Ev.t (by rfl) ?_
          | refine Ev.f (by rfl) ?_
          | refine Ev.ite (by first | rfl | assumption) ?_
          | refine Ev.to (by simp (disch := omega) [-loadV, -storeV, -Int.natCast_add, loadV_ip] <;> rfl) ?_)
        refine Ev.beq (fun _ => ?_) (fun _ => ?_)
        · skip
          repeat (first
            | refine Ev.fin (by simp [] <;> rfl) (by simp []) ?_
            | refine Ev.t (by rfl) ?_
            | refine Ev.f (by rfl) ?_
            | refine Ev.ite (by first | rfl | assumption) ?_
            | refine Ev.to (by simp (disch := omega) [-loadV, -storeV, -Int.natCast_add, loadV_ip] <;> rfl) ?_)
          refine Ev.bind ((g_Place i).at (by assumption)) ?_
          rintro _ ⟨v2, a2, k2, q2, rfl⟩
          try dsimp only
          obtain ⟨p, _, rfl⟩ := q2
          have st := Stt.store0 (S := S) (i := i) (e := srcE L a2) (o := 3) (n := 4) (v := .agg (plC (normP p))) h3.e0 cells1_plC rfl (by simp [repV])
          refine Ev.to rfl (Ev.to st ?_)
          exact done _ _ { r with face := (normP p).face, pa := (normP p).a, pb := (normP p).b, pc := (normP p).c } v k2 (h3.put (r' := { r with face := (normP p).face, pa := (normP p).a, pb := (normP p).b, pc := (normP p).c }) rfl) (by simp)
        · skip
          repeat (first
            | refine Ev.fin (by simp [] <;> rfl) (by simp []) ?_
            | refine Ev.t (by rfl) ?_
            | refine Ev.f (by rfl) ?_
            | refine Ev.ite (by first | rfl | assumption) ?_
            | refine Ev.to (by simp (disch := omega) [-loadV, -storeV, -Int.natCast_add, loadV_ip] <;> rfl) ?_)
          refine Ev.beq (fun _ => ?_) (fun _ => ?_)
          · skip
            repeat (first
              | refine Ev.fin (by simp [] <;> rfl) (by simp []) ?_
              | refine Ev.t (by rfl) ?_
              | refine Ev.f (by rfl) ?_
              | refine Ev.ite (by first | rfl | assumption) ?_
              | refine Ev.to (by simp (disch := omega) [-loadV, -storeV, -Int.natCast_add, loadV_ip] <;> rfl) ?_)
            refine Ev.bind (e_Range (by assumption) (by omega) (by omega) (by omega)) ?_
            rintro _ ⟨v2, a2, k2, _, _, rfl⟩
            try dsimp only
            repeat (first
              | refine Ev.fin (by simp [] <;> rfl) (by simp []) ?_
              | refine Ev.t (by rfl) ?_
              | refine Ev.f (by rfl) ?_
              | refine Ev.ite (by first | rfl | assumption) ?_
              | refine Ev.to (by simp (disch := omega) [-loadV, -storeV, -Int.natCast_add, loadV_ip] <;> rfl) ?_)
            refine Ev.bind (e_N (by assumption) (by omega) (by omega)) ?_
            rintro _ ⟨v3, a3, k3, _, _, rfl⟩
            try dsimp only
            repeat (first
              | refine Ev.fin (by simp [] <;> rfl) (by simp []) ?_
              | refine Ev.t (by rfl) ?_
              | refine Ev.f (by rfl) ?_
              | refine Ev.ite (by first | rfl | assumption) ?_
              | refine Ev.to (by simp (disch := omega) [-loadV, -storeV, -Int.natCast_add, loadV_ip] <;> rfl) ?_)
            refine Ev.bind (e_N (by assumption) (by omega) (by omega)) ?_
            rintro _ ⟨v4, a4, k4, _, _, rfl⟩
            try dsimp only
            have st := Stt.store0 (S := S) (i := i) (e := srcE L a4) (o := 3) (n := 4) (v := .agg [i64 v2, i64 v3, i64 v4, i64 0]) (vs := [i64 v2, i64 v3, i64 v4, i64 0]) h3.e0 rfl rfl (by simp [repV])
            refine Ev.to (a := .agg [i64 v2, i64 v3, i64 v4, i64 0]) rfl (Ev.to rfl (Ev.to st ?_))
            exact done _ _ { r with face := v2, pa := v3, pb := v4, pc := 0 } v k4 (h3.put (r' := { r with face := v2, pa := v3, pb := v4, pc := 0 }) rfl) (by simp)
          · have hj : S.length ≠ i := by omega
            have ldr : ∀ a, loadV none (.ptr S.length 7) (Sr S i L a es1) = some v := fun a => by rw [Stt.load0 h3.e0]; rfl
            have ldR : ∀ a, loadRV none (.ptr S.length 7) (.ptr S.length 0) (Sr S i L a es1) = some v := fun a => by simp only [loadRV, Nat.beq_refl, cond_true, ldr]
            repeat (first
              | refine Ev.fin (by simp [] <;> rfl) (by simp []) ?_
              | refine Ev.t (by rfl) ?_
              | refine Ev.f (by rfl) ?_
              | refine Ev.ite (by first | rfl | assumption) ?_
              | refine Ev.to (by simp (disch := omega) [-loadV, -storeV, -Int.natCast_add, loadV_ip] <;> rfl) ?_)
            refine Ev.beq (fun _ => ?_) (fun _ => ?_)
            · refine Ev.to rfl (Ev.to (ldR _) (Ev.to rfl ?_))
              refine Ev.bind (e_only hlt (by omega) (e_Range (by assumption) (by omega) (by omega) (by omega)) (by rintro _ ⟨_, _, _, _, _, rfl⟩; exact ⟨_, _, rfl⟩)) ?_
              rintro _ ⟨v2, a2, k2, _, _, rfl⟩
              try dsimp only
              refine Ev.to rfl ?_
              refine Ev.bind (e_only hlt (by omega) (e_N (by assumption) (by omega) (by omega)) (by rintro _ ⟨_, _, _, _, _, rfl⟩; exact ⟨_, _, rfl⟩)) ?_
              rintro _ ⟨v3, a3, k3, _, _, rfl⟩
              try dsimp only
              refine Ev.to (a := .agg [i64 v2, i64 v3]) rfl ?_
              refine Ev.to (a := .sl [[i64 v2, i64 v3]] .full) rfl ?_
              have hap2 : ∃ v' es2, appendMV 2 v (.sl [[i64 v2, i64 v3]] .full) (Sr S i L a3 es1) = some (v', Sr S i L a3 es2) ∧ storeV S.length 1 (.ptr S.length 7) v' (Sr S i L a3 es2) = some (Sr S i L a3 (es2.set 0 (.obj (repV { r with rd := r.rd ++ [(v2, v3)] } v')))) ∧
                  BE S (es2.set 0 (.obj (repV { r with rd := r.rd ++ [(v2, v3)] } v'))) { r with rd := r.rd ++ [(v2, v3)] } v' := by
                have hlt1 := h3.lt
                rcases h3.rd with ⟨hv, hrd⟩ | ⟨hrd, m, hm, hv, hem⟩
                · refine ⟨.osl (S.length + es1.length) 0 1 2, es1 ++ [.obj [i64 v2, i64 v3]], ?_, ?_, ?_⟩
                  · subst hv
                    simp only [appendMV, rowsOf_sl, Option.bind_some, immRows, List.length_cons, List.length_nil, imms, imm1, if_true, Stt.length, Stt.app]
                    rfl
                  · have h0 : (es1 ++ [Ent.obj [i64 v2, i64 v3]])[0]? = some (.obj (repV r v)) := by rw [List.getElem?_append_left (by omega)]; exact h3.e0
                    exact Stt.store0 (o := 7) (n := 1) (v := .osl (S.length + es1.length) 0 1 2) (vs := [.osl (S.length + es1.length) 0 1 2]) h0 rfl rfl (by simp [repV])
                  · have hl2 : (es1 ++ [Ent.obj [i64 v2, i64 v3]]).length = es1.length + 1 := by simp
                    refine ⟨by rw [List.getElem?_set_self (by omega)], by rw [List.getElem?_set_ne (by omega), List.getElem?_append_left (by omega)]; exact h3.e1, .inr ⟨by simp, es1.length, by omega, by simp [hrd], ?_⟩⟩
                    rw [List.getElem?_set_ne (by omega), List.getElem?_append_right (Nat.le_refl _)]
                    simp [hrd, rds]
                · refine ⟨.osl (S.length + es1.length) 0 (r.rd.length + 1) 2, es1.set m .dead ++ [.obj ((rds r.rd).flatten ++ [i64 v2, i64 v3])], ?_, ?_, ?_⟩
                  · subst hv
                    have hfl := flatten_length (xs := rds r.rd) (sz := 2) fun x hx => (rds_row x hx).1
                    rw [rds_length] at hfl
                    have hpos : 0 < r.rd.length := List.length_pos_iff.2 hrd
                    simp only [appendMV, Stt.own, hem, rowsOf_sl, Option.bind_some, immRows, List.length_cons, List.length_nil, imms, imm1, if_true, Stt.length, Stt.app, Stt.set_own]
                    rw [if_pos ⟨trivial, hpos, by omega, by simp [room]; omega⟩, ← hfl, List.take_length]
                    rfl
                  · have h0 : (es1.set m .dead ++ [Ent.obj ((rds r.rd).flatten ++ [i64 v2, i64 v3])])[0]? = some (.obj (repV r v)) := by
                      rw [List.getElem?_append_left (by simp; omega), List.getElem?_set_ne (by omega)]; exact h3.e0
                    exact Stt.store0 (o := 7) (n := 1) (v := .osl (S.length + es1.length) 0 (r.rd.length + 1) 2) (vs := [.osl (S.length + es1.length) 0 (r.rd.length + 1) 2]) h0 rfl rfl (by simp [repV])
                  · have hl2 : (es1.set m .dead ++ [Ent.obj ((rds r.rd).flatten ++ [i64 v2, i64 v3])]).length = es1.length + 1 := by simp
                    have hl3 : (es1.set m Ent.dead).length = es1.length := by simp
                    refine ⟨by rw [List.getElem?_set_self (by omega)], by rw [List.getElem?_set_ne (by omega), List.getElem?_append_left (by omega), List.getElem?_set_ne (by omega)]; exact h3.e1, .inr ⟨by simp, es1.length, by omega, by simp, ?_⟩⟩
                    rw [List.getElem?_set_ne (by omega), List.getElem?_append_right (by omega), hl3, Nat.sub_self]
                    simp [rds]
              obtain ⟨v', es2, j1, j2, j3⟩ := hap2
              refine Ev.to j1 (Ev.to rfl (Ev.to j2 ?_))
              exact done _ _ _ _ k3 j3 (by simp)
            · skip
              repeat (first
                | refine Ev.fin (by simp [] <;> rfl) (by simp []) ?_
                | refine Ev.t (by rfl) ?_
                | refine Ev.f (by rfl) ?_
                | refine Ev.ite (by first | rfl | assumption) ?_
                | refine Ev.to (by simp (disch := omega) [-loadV, -storeV, -Int.natCast_add, loadV_ip] <;> rfl) ?_)
              refine Ev.beq (fun _ => ?_) (fun _ => ?_)
              · refine Ev.to rfl (Ev.to (ldr _) ?_)
                have hlv : lenV v = some (i64 r.rd.length) := by
                  rcases h3.rd with ⟨hv, hrd⟩ | ⟨hrd, m, hm, hv, hem⟩
                  · rw [hv, hrd]; rfl
                  · rw [hv]; rfl
                refine Ev.to hlv (Ev.to rfl ?_)
                refine Ev.dec (fun hpos => ?_) (fun _ => done _ _ r _ k1 h3 (by omega))
                rcases h3.rd with ⟨hv, hrd⟩ | ⟨hrd, m, hm, hv, hem⟩
                · rw [hrd] at hpos; simp at hpos
                refine Ev.to rfl (Ev.to (ldR _) (Ev.to rfl (Ev.to (ldr _) (Ev.to hlv (Ev.to rfl ?_)))))
                refine Ev.bind (e_only hlt (by omega) (e_N (by assumption) (by omega) (by omega)) (by rintro _ ⟨_, _, _, _, _, rfl⟩; exact ⟨_, _, rfl⟩)) ?_
                rintro _ ⟨v2, a2, k2, c1, c2, rfl⟩
                try dsimp only
                refine Ev.to (a := .sl [[i64 (-1001)], [i64 0], [i64 99999]] .full) rfl (Ev.to rfl ?_)
                refine Ev.bind (e_only hlt (by omega) (e_Pick (by assumption) (by simp) (by simp) (by simp)) (by rintro _ ⟨_, _, _, _, rfl⟩; exact ⟨_, _, rfl⟩)) ?_
                rintro _ ⟨v3, a3, k3, _, rfl⟩
                try dsimp only
                have hix : indexAV 2 none v (i64 v2) = some (.ptr (S.length + m) (v2.toNat * 2)) := by
                  rw [hv]
                  simp only [indexAV, i64]
                  rw [if_pos ⟨c1, c2, trivial⟩, Nat.zero_add]
                refine Ev.to hix (Ev.to rfl ?_)
                have hfl := flatten_length (xs := rds r.rd) (sz := 2) fun x hx => (rds_row x hx).1
                rw [rds_length] at hfl
                have st := Stt.store (S := S) (i := i) (e := srcE L a3) (k := m) (o := v2.toNat * 2 + 1) (n := 1) (v := i64 v3) (vs := [i64 v3]) hem rfl rfl (by omega)
                refine Ev.to st ?_
                obtain ⟨rd2, g1, g2⟩ := flat_rds r.rd.length ((r.rd.flatMap fun x => [x.1, x.2]).set (v2.toNat * 2 + 1) v3) (by
                  rw [List.length_set, ← hfl, rds_flat, List.length_map])
                have e1 : setC (rds r.rd).flatten (v2.toNat * 2 + 1) [i64 v3] = (rds rd2).flatten := by
                  rw [g2, rds_flat]
                  simp only [setC, List.map_set]
                rw [e1]
                have hlt1 := h3.lt
                have hm2 := (List.getElem?_eq_some_iff.1 hem).1
                refine done _ _ { r with rd := rd2 } v k3 ⟨by rw [List.getElem?_set_ne (by omega)]; exact h3.e0, by rw [List.getElem?_set_ne (by omega)]; exact h3.e1, .inr ⟨fun e => by rw [show rd2 = [] from e] at g1; exact hrd (List.eq_nil_of_length_eq_zero g1.symm), m, hm, by rw [hv]; simp [g1], by rw [List.getElem?_set_self hm2]⟩⟩ (by simp [g1])
              · refine Ev.to rfl (Ev.to rfl (Ev.to (a := i64 r.pc) (by rw [Stt.load0 h3.e0]; rfl) (Ev.to rfl (Ev.to rfl (Ev.to rfl (Ev.to (h3.store (w := i64 (IntKind.i64.wrap (r.pc + 1))) (r' := { r with pc := IntKind.i64.wrap (r.pc + 1) }) (by omega) rfl rfl rfl rfl) ?_))))))
                exact done _ _ { r with pc := IntKind.i64.wrap (r.pc + 1) } _ k1 (h3.put rfl) (by simp)

end Go.Proofs.YtlilahgndpdkfaaDoor
