/-
  Texts of this claim: TlRefLine.
-/
import Derived.Test.YtlilahgndpdkfaaDoorOwn17
import Derived.Test.YtlilahgndpdkfaaDoorOwn18
set_option linter.all false
/-
  What the timeline's reference says of the line of a name and an element.
-/
namespace Go.Proofs.YtlilahgndpdkfaaDoor
open Go Go.Abs

/-- The place of a new reading. -/
theorem r_place {Q : List Pt} {tk : Tok} {r : Rep} {S : Store} {n0 : Nat} {a8 a10 a16 : AV} (hQ : Q.length ≤ 1000000) :
    iter (fun s => F42_L2 call n0 (.sl (pts Q) tk) a8 (.ip (repR r) 0) a10 a16 (s.1.getD 0 .u) s.2) ([i64 0], S) = some (.exit 2, [i64 (posT r.time Q : Nat)], S) := by
  have hle := posT_le r.time Q
  have key := iter_run (step := fun s => F42_L2 call n0 (.sl (pts Q) tk) a8 (.ip (repR r) 0) a10 a16 (s.1.getD 0 .u) s.2) (fun k => ([i64 (k : Nat)], S)) (r := (Ex.exit 2, [i64 (posT r.time Q : Nat)], S)) (posT r.time Q) 0
    (fun k _ hk => by
      have hkl : k < Q.length := by omega
      have hlt : (k : Int) < (Q.length : Int) := by omega
      have h1 := posT_lt (t := r.time) (l := Q) (j := k) (by omega) hkl
      have w1 : IntKind.i64.wrap ((k : Int) + 1) = (k : Int) + 1 := wrap_in (by unfold In64; omega)
      simp [F42_L2, hlt, indexAV, at_pts hkl, ptR, repR, h1, w1, nextS_same])
    (by
      simp only [Nat.zero_add]
      by_cases hc : posT r.time Q < Q.length
      · have hlt : (posT r.time Q : Int) < (Q.length : Int) := by omega
        have h1 := posT_at (t := r.time) (l := Q) hc
        simp [F42_L2, hlt, indexAV, at_pts hc, ptR, repR, h1]
      · have hlt : ¬ (posT r.time Q : Int) < (Q.length : Int) := by omega
        simp [F42_L2, hlt])
  exact key

/-- A reading put in. -/
theorem r_put {Q : List Pt} {tk : Tok} {S : Store} {p : Pt} {k : Nat} (hk : k ≤ Q.length) (hQ : Q.length ≤ 1000000) :
    ∃ v44 v45 S1 v46 j S2, sliceV 3 (.sl (pts Q) tk) (some (.int .i64 (k : Int))) none none = some v44 ∧ appendV 3 (.sl [ptR p] .full) v44 S = some (v45, S1) ∧ sliceV 3 (.sl (pts Q) tk) none (some (.int .i64 (k : Int))) (some (.int .i64 (k : Int))) = some v46 ∧
      appendV 3 v46 v45 S1 = some (.sl (pts (Q.take k ++ p :: Q.drop k)) (.own j), S2) ∧ S.length ≤ j ∧ ∃ es, S2 = S ++ es := by
  have hroom : room = 4294967296 := rfl
  have hrow : ∀ l : List Pt, immRows 3 (pts l) = some (pts l) := fun l => immRows_self pts_row
  have hsz : ∀ l : List Pt, szOK 3 (pts l) = true := fun l => by cases l <;> rfl
  have hd : (pts Q).drop k = pts (Q.drop k) := by simp [pts, List.map_drop]
  have ht : (pts Q).take k = pts (Q.take k) := by simp [pts, List.map_take]
  have e1 : sliceV 3 (.sl (pts Q) tk) (some (.int .i64 (k : Int))) none none = some (.sl (pts (Q.drop k)) (sliceTok none none tk)) := by
    simp only [sliceV, bound, pts_length, Option.bind_some]
    rw [show (if 0 ≤ (k : Int) ∧ (k : Int) ≤ (Q.length : Int) then some (k : Int).toNat else none) = some k by rw [if_pos ⟨by omega, by omega⟩]; simp]
    simp only [Option.bind_some, mxFits, hsz, Bool.and_true, cond_true]
    rw [show (pts Q).take Q.length = pts Q by rw [List.take_of_length_le (by simp)], hd]
  have e3 : sliceV 3 (.sl (pts Q) tk) none (some (.int .i64 (k : Int))) (some (.int .i64 (k : Int))) = some (.sl (pts (Q.take k)) .full) := by
    simp only [sliceV, bound, pts_length]
    rw [show (if 0 ≤ (k : Int) ∧ (k : Int) ≤ (Q.length : Int) then some (k : Int).toNat else none) = some k by rw [if_pos ⟨by omega, by omega⟩]; simp]
    simp only [Option.bind_some, mxFits, beq_self_eq_true, hsz, Bool.and_true, cond_true, List.drop_zero, ht, sliceTok]
  by_cases hend : Q.drop k = []
  · refine ⟨_, .sl [ptR p] .full, S, _, S.length, S ++ [.tail (k + 1) 3], e1, ?_, e3, ?_, Nat.le_refl _, _, rfl⟩
    · rw [hend]; simp [appendV, pts, immRows]
    · have hp1 : [ptR p] = pts [p] := rfl
      have hlen : (Q.take k).length = k := by simp; omega
      simp only [appendV, rowsOf_sl, Option.bind_some, hp1, hrow]
      rw [show pts [p] = [ptR p] from rfl]
      simp only [List.length_cons, List.length_nil, pts_length, hlen]
      rw [if_pos (by omega)]
      simp only [hsz, cond_true, hend]
      simp [pts]
  · have hlen : (Q.take k).length = k := by simp; omega
    obtain ⟨y, ys, hy⟩ : ∃ y ys, pts (Q.drop k) = y :: ys := by
      cases h : Q.drop k with
      | nil => exact absurd h hend
      | cons a l => exact ⟨_, _, rfl⟩
    have hdl : (Q.drop k).length ≤ Q.length := by simp
    have hr : pts (p :: Q.drop k) = ptR p :: pts (Q.drop k) := rfl
    refine ⟨_, .sl (pts (p :: Q.drop k)) (.own S.length), S ++ [.tail ((Q.drop k).length + 1) 3], _, S.length + 1, S ++ [.tail ((Q.drop k).length + 1) 3] ++ [.tail (k + ((Q.drop k).length + 1)) 3], e1, ?_, e3, ?_, by omega, _, List.append_assoc _ _ _⟩
    · have h1 := hrow (Q.drop k)
      have h2 : (pts (Q.drop k)).length = (Q.drop k).length := by simp
      rw [hy] at h1 h2 ⊢
      simp only [appendV, rowsOf_sl, Option.bind_some, h1]
      rw [if_pos (by simp only [List.length_cons, List.length_nil] at h2 ⊢; omega)]
      simp only [szOK, ptR, List.length_cons, List.length_nil, Nat.beq_refl, cond_true]
      rw [hr, hy]
      simp only [List.length_cons] at h2
      simp [ptR, ← h2, Nat.add_comm]
    · have h1 := hrow (p :: Q.drop k)
      simp only [appendV, rowsOf_sl, Option.bind_some, h1]
      rw [hr]
      have h2 : (pts (Q.drop k)).length = (Q.drop k).length := by simp
      simp only [List.length_cons, h2, pts_length, hlen]
      rw [if_pos (by omega)]
      simp only [hsz, cond_true, List.length_append, List.length_cons, List.length_nil]
      simp [pts]

def plainTok (n : Nat) (tk : Tok) : Prop := tk = .full ∨ ∃ j, tk = .own j ∧ n ≤ j

set_option maxHeartbeats 2000000 in
theorem r_line {l : List Rep} {t : Tok} {x : Key} (hg : Abs.Good l) (hl : l.length ≤ 1000000) (hla : (allR l 0).length ≤ 1000000) (S : Store) :
    ∃ tk, call 42 [.sl (reps l) t, .str x.1, i64 x.2] S = some (.sl (pts (lineP l x)) tk, S) := by
  rw [k42]
  unfold F42
  have key := iter_to (step := fun s => F42_L1 call S.length (.str x.1) (i64 x.2) (.sl (reps l) t) (i64 l.length) (s.1.getD 0 .u) (s.1.getD 1 .u) s.2)
    (fun k s => ∃ Q tk S1, s = ([.sl (pts Q) tk, i64 (k : Nat)], S1) ∧ Q.Perm (ptsOf (allR (l.take k) 0) x) ∧ Q.Pairwise (fun a b => a.time < b.time) ∧ plainTok S.length tk ∧ ∃ es, S1 = S ++ es)
    (fun r => ∃ Q tk S1, r = (.exit 0, [.sl (pts Q) tk], S1) ∧ Q.Perm (ptsOf (allR l 0) x) ∧ Q.Pairwise (fun a b => a.time < b.time) ∧ plainTok S.length tk ∧ ∃ es, S1 = S ++ es) l.length
    (fun k s hk ⟨Q, tk, S1, hs, h1, h2, h3, es, h4⟩ => by
      subst hs
      have hlt : (k : Int) < (l.length : Int) := by omega
      have w1 : IntKind.i64.wrap ((k : Int) + 1) = (k : Int) + 1 := wrap_in (by unfold In64; omega)
      have hv := hg.valid l[k] (List.getElem_mem hk)
      have hrd : l[k].rd.length ≤ 1000000 := by
        have : allR l 0 = allR (l.take (k + 1)) 0 ++ allR (l.drop (k + 1)) (0 + (l.take (k + 1)).length) := by rw [← allR_append, List.take_append_drop]
        rw [this, allR_take hk] at hla
        simp only [List.length_append, entR, List.length_map] at hla
        omega
      have hfind := r_Find (l := l[k].rd) (t := .none) (c := x.2) hrd S1
      have hent := ent_find (r := l[k]) (i := k) (x := x) hv
      have htk := allR_take hk
      have hat := at_reps hk
      have hQl : Q.length ≤ 1000000 := by
        rw [h1.length_eq]
        have h5 := ptsOf_le (allR (l.take k) 0) x
        have : allR l 0 = allR (l.take k) 0 ++ allR (l.drop k) (0 + (l.take k).length) := by rw [← allR_append, List.take_append_drop]
        rw [this, List.length_append] at hla
        omega
      have same : ptsOf (entR k l[k]) x = [] → ∃ s', F42_J1 call S.length S1.length (.sl (pts Q) tk) (i64 (k : Nat)) S1 = some (.inl s') ∧ ∃ Q tk S1, s' = ([.sl (pts Q) tk, i64 ((k + 1 : Nat) : Int)], S1) ∧ Q.Perm (ptsOf (allR (l.take (k + 1)) 0) x) ∧ Q.Pairwise (fun a b => a.time < b.time) ∧ plainTok S.length tk ∧ ∃ es, S1 = S ++ es := fun h0 => by
        refine ⟨([.sl (pts Q) tk, i64 ((k + 1 : Nat) : Int)], S1), ?_, Q, tk, S1, rfl, ?_, h2, h3, es, h4⟩
        · unfold F42_J1
          simp only [binV, isShift, cond_false, if_true, binI, Option.bind_some, w1, nextS_same]
          rfl
        · rw [htk, ptsOf_append, h0, List.append_nil]; exact h1
      simp only [List.getD_cons_zero, List.getD_cons_succ]
      by_cases hn : l[k].name = x.1
      · rw [if_pos hn] at hent
        cases hf : findP l[k].rd x.2 with
        | none =>
          rw [hf] at hent hfind
          obtain ⟨s', e1, e2⟩ := same hent
          refine ⟨s', ?_, e2⟩
          rw [← e1]
          unfold F42_L1
          simp only []
          repeat (first
            | rfl
            | refine cond_t (by rfl) ?_
            | refine cond_f (by rfl) ?_
            | refine ite_of (by first | rfl | assumption) ?_
            | refine bind_of (by simp [-loadV, -storeV, -Int.natCast_add, loadV_ip, hlt, indexAV, hat, repR, hfind, extractV, hn] <;> rfl) ?_)
        | some v =>
          rw [hf] at hent hfind
          simp only at hent
          have hpl := r_place (Q := Q) (tk := tk) (r := l[k]) (S := S1) (n0 := S.length) (a8 := i64 (k : Nat)) (a10 := i64 v) (a16 := i64 (k : Nat)) hQl
          obtain ⟨v44, v45, S2, v46, j, S3, p1, p2, p3, p4, p5, es2, p6⟩ := r_put (Q := Q) (tk := tk) (S := S1) (p := ⟨k, l[k].time, v⟩) (posT_le l[k].time Q) hQl
          simp only [repR, i64, hn] at hpl
          simp only [ptR] at p2
          refine ⟨([.sl (pts (putIn ⟨k, l[k].time, v⟩ Q)) (.own j), i64 ((k + 1 : Nat) : Int)], S3), ?_, putIn ⟨k, l[k].time, v⟩ Q, .own j, S3, rfl, ?_, ?_, .inr ⟨j, rfl, by rw [h4] at p5; simp at p5; omega⟩, es ++ es2, by rw [p6, h4, List.append_assoc]⟩
          · have hJ : F42_J1 call S.length S1.length (.sl (pts (putIn ⟨k, l[k].time, v⟩ Q)) (.own j)) (i64 (k : Nat)) S3 = some (.inl ([.sl (pts (putIn ⟨k, l[k].time, v⟩ Q)) (.own j), i64 ((k + 1 : Nat) : Int)], S3)) := by
              unfold F42_J1
              simp only [binV, isShift, cond_false, if_true, binI, Option.bind_some, w1]
              simp [nextS, belows, below, blt_false p5]
            rw [← hJ]
            unfold F42_L1
            simp only []
            repeat (first
              | refine cond_t (by rfl) ?_
              | refine cond_f (by rfl) ?_
              | refine ite_of (by rfl) ?_
              | refine bind_of (by simp [-loadV, hlt, indexAV, hat, repR, hfind, extractV, hn, loadV_ip] <;> rfl) ?_)
            refine bind_of (by exact hpl) ?_
            simp only [exK_exit, Nat.beq_refl, cond_true]
            refine bind_of (by simp <;> rfl) ?_
            refine bind_of (by simp <;> rfl) ?_
            refine bind_of (by simp [buildV, fillC, setC] <;> rfl) ?_
            refine bind_of (by simp [bsliceV, immRows] <;> rfl) ?_
            refine bind_of (by exact p1) ?_
            refine bind_of (by exact p2) ?_
            refine bind_of (by exact p3) ?_
            refine bind_of (by exact p4) ?_
            rfl
          · rw [htk, ptsOf_append, hent]
            exact (putIn_perm _ _).trans ((h1.cons _).trans (List.perm_append_singleton _ _).symm)
          · refine putIn_sorted h2 fun q hq => ?_
            have hq' := h1.mem_iff.1 hq
            have hnd := hg.times x
            have hsplit : allR l 0 = allR (l.take (k + 1)) 0 ++ allR (l.drop (k + 1)) (0 + (l.take (k + 1)).length) := by rw [← allR_append, List.take_append_drop]
            rw [hsplit, htk, ptsOf_append, ptsOf_append, hent, List.map_append, List.map_append] at hnd
            have h6 := (List.nodup_append.1 (List.nodup_append.1 hnd).1).2.2 q.time (List.mem_map.2 ⟨q, hq', rfl⟩) l[k].time (by simp)
            exact h6
      · rw [if_neg hn] at hent
        obtain ⟨s', e1, e2⟩ := same hent
        refine ⟨s', ?_, e2⟩
        rw [← e1]
        unfold F42_L1
        simp only []
        cases hf : findP l[k].rd x.2 with
        | none =>
          rw [hf] at hfind
          repeat (first
            | rfl
            | refine cond_t (by rfl) ?_
            | refine cond_f (by rfl) ?_
            | refine ite_of (by first | rfl | assumption) ?_
            | refine bind_of (by simp [-loadV, -storeV, -Int.natCast_add, loadV_ip, hlt, indexAV, hat, repR, hfind, extractV, hn] <;> rfl) ?_)
        | some v =>
          rw [hf] at hfind
          repeat (first
            | rfl
            | refine cond_t (by rfl) ?_
            | refine cond_f (by rfl) ?_
            | refine ite_of (by first | rfl | assumption) ?_
            | refine bind_of (by simp [-loadV, -storeV, -Int.natCast_add, loadV_ip, hlt, indexAV, hat, repR, hfind, extractV, hn] <;> rfl) ?_))
    (fun s ⟨Q, tk, S1, hs, h1, h2, h3, h4⟩ => by
      subst hs
      rw [List.take_length] at h1
      exact ⟨(.exit 0, [.sl (pts Q) tk], S1), by simp [F42_L1], Q, tk, S1, rfl, h1, h2, h3, h4⟩) 0 ([.sl [] .full, i64 0], S) (Nat.zero_le _) ⟨[], .full, S, rfl, by simp [allR, ptsOf], .nil, .inl rfl, [], by simp⟩
  obtain ⟨r, k1, Q, tk, S1, rfl, h1, h2, h3, es, rfl⟩ := key
  have hQ := line_unique hg h2 h1
  subst hQ
  refine ⟨(match tk with | .own _ => .none | tk => tk), ?_⟩
  refine bind_of (by simp [lenV] <;> rfl) ?_
  refine bind_of (by exact k1) ?_
  show finish false S.length [.sl (pts (lineP l x)) tk] (S ++ es) = _
  rcases h3 with rfl | ⟨j, rfl, hj⟩
  · rw [finish_eq (vs' := [.sl (pts (lineP l x)) .full]) rfl (by simp [belows, below])]; simp
  · rw [finish_eq (vs' := [.sl (pts (lineP l x)) .none]) (by simp only [fins, fin1, blt_false hj, cond_false, Option.bind_some]) (by simp [belows, below])]; simp

end Go.Proofs.YtlilahgndpdkfaaDoor
