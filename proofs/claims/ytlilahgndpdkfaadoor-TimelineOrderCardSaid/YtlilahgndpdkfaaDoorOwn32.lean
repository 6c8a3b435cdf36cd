/-
  Texts of this claim: TlArgsK.
-/
import Derived.Test.YtlilahgndpdkfaaDoorOwn9
import Derived.Test.YtlilahgndpdkfaaDoorOwn31
set_option linter.all false
/-
  What the laws' arguments look like: parameters; small reports.
-/
namespace Go.Proofs.YtlilahgndpdkfaaDoor
open Go Go.Abs
set_option maxRecDepth 100000

theorem u_arr12 : Tryd.prog.underlying 23 = some (.array 12 3) := by kernel_rfl
theorem u_control : fieldTypes Tryd.prog 25 = some [3, 23, 23, 3, 23, 3, 3, 3] := by kernel_rfl

theorem fit_arr12 {n : Nat} {cs : List AV} (h : Fits Tryd.prog (n + 2) 23 cs) : ∃ l : List Int, cs = l.map i64 ∧ l.length = 12 ∧ ∀ z ∈ l, In64 z :=
  fitsK_ints (fun a ha => fit_int ha) (fits_array u_arr12 h)

theorem fit_control {n : Nat} {cs : List AV} (h : Fits Tryd.prog (n + 3) 25 cs) : ∃ k : Ctl, cs = ctlC k ∧ k.Fit := by
  obtain ⟨_, _, rfl, a1, _, _, rfl, a2, _, _, rfl, a3, _, _, rfl, a4, _, _, rfl, a5, _, _, rfl, a6, _, _, rfl, a7, _, _, rfl, a8, rfl⟩ := fits_fields u_control h
  obtain ⟨x1, rfl, _⟩ := fit_int a1
  obtain ⟨l2, rfl, h2, _⟩ := fit_arr12 a2
  obtain ⟨l3, rfl, h3, _⟩ := fit_arr12 a3
  obtain ⟨x4, rfl, _⟩ := fit_int a4
  obtain ⟨l5, rfl, h5, _⟩ := fit_arr12 a5
  obtain ⟨x6, rfl, _⟩ := fit_int a6
  obtain ⟨x7, rfl, _⟩ := fit_int a7
  obtain ⟨x8, rfl, _⟩ := fit_int a8
  refine ⟨⟨x1, l2, l3, x4 :: (l5 ++ [x6, x7, x8])⟩, ?_, h2, h3, by simp [h5]⟩
  simp [ctlC]

theorem arg_control {a : AV} (h : FitsA Tryd.prog 8 25 a) : ∃ k : Ctl, a = .agg (ctlC k) ∧ k.Fit := by
  obtain ⟨cs, rfl, h2⟩ := fits_agg (by kernel_rfl) h
  obtain ⟨k, rfl, hk⟩ := fit_control h2
  exact ⟨k, rfl, hk⟩

theorem s_Small (r : Rep) (S : Store) : call 26 [.agg (repR r)] S = some (.bool (decide (r.name.length ≤ 40) && decide (r.rd.length ≤ 40)), S) := by
  rw [k26]
  unfold F26
  refine bind_of (show imms (cellsOf (.agg (repR r))) = some (repR r) from imms_repR) ?_
  simp only [repR]
  by_cases h1 : r.name.length ≤ 40
  · have h1' : (r.name.length : Int) ≤ 40 := by omega
    by_cases h2 : r.rd.length ≤ 40
    · have h2' : (r.rd.length : Int) ≤ 40 := by omega
      repeat (first
        | rfl
        | refine cond_t (by rfl) ?_
        | refine cond_f (by rfl) ?_
        | refine ite_of (by first | rfl | assumption) ?_
        | refine bind_of (by simp [-loadV, -storeV, -Int.natCast_add, loadV_ip, h1', h2'] <;> rfl) ?_)
      simp [h1, h2]
    · have h2' : ¬ (r.rd.length : Int) ≤ 40 := by omega
      repeat (first
        | rfl
        | refine cond_t (by rfl) ?_
        | refine cond_f (by rfl) ?_
        | refine ite_of (by first | rfl | assumption) ?_
        | refine bind_of (by simp [-loadV, -storeV, -Int.natCast_add, loadV_ip, h1', h2'] <;> rfl) ?_)
      simp [h1, h2]
  · have h1' : ¬ (r.name.length : Int) ≤ 40 := by omega
    repeat (first
      | rfl
      | refine cond_t (by rfl) ?_
      | refine cond_f (by rfl) ?_
      | refine ite_of (by first | rfl | assumption) ?_
      | refine bind_of (by simp [-loadV, -storeV, -Int.natCast_add, loadV_ip, h1'] <;> rfl) ?_)
    simp [h1]

theorem s_SmallAll {l : List Rep} {t : Tok} {n : Int} (hn : n ≤ 1000000) (S : Store) : ∃ b, call 9 [.sl (reps l) t, i64 n] S = some (.bool b, S) ∧ (b = true → (l.length : Int) ≤ n ∧ ∀ r ∈ l, r.name.length ≤ 40 ∧ r.rd.length ≤ 40) := by
  rw [k9]
  unfold F9
  by_cases h : (n : Int) < (l.length : Int)
  · refine ⟨false, ?_, by simp⟩
    simp [h]
  · have key := iter_scan (step := fun s => F9_L1 call S.length (.sl (reps l) t) (s.1.getD 0 .u) s.2) (S := S) (fun k => !(decide ((l.getD k ⟨0, [], 0, 0, 0, 0, 0, []⟩).name.length ≤ 40) && decide ((l.getD k ⟨0, [], 0, 0, 0, 0, 0, []⟩).rd.length ≤ 40))) (rT := fun _ => (Ex.ret, [.bool false], S)) (rE := (Ex.exit 0, [.u], S)) l.length 0
      (fun k _ hk => by
        have hk : k < l.length := by omega
        have hlt : (k : Int) < (l.length : Int) := by omega
        have hg : l.getD k ⟨0, [], 0, 0, 0, 0, 0, []⟩ = l[k] := by rw [List.getD_eq_getElem?_getD, List.getElem?_eq_getElem hk]; rfl
        rw [hg]
        have hat := at_reps hk
        have hs := s_Small l[k] S
        have w1 : IntKind.i64.wrap ((k : Int) + 1) = (k : Int) + 1 := wrap_in (by unfold In64; omega)
        have hix : indexAV 8 none (.sl (reps l) t) (.int .i64 (k : Int)) = some (.ip (repR l[k]) 0) := by simp [indexAV, hat]
        have hl8 : takeC (some 8) (repR l[k]) 0 = some (.agg (repR l[k])) := rfl
        have him : imms (repR l[k]) = some (repR l[k]) := imms_repR
        generalize repR l[k] = R at *
        cases hb : (decide ((l[k]).name.length ≤ 40) && decide ((l[k]).rd.length ≤ 40)) with
        | true =>
          rw [hb] at hs
          unfold F9_L1
          simp only [Bool.not_true, Bool.false_eq_true, if_false]
          repeat (first
            | rfl
            | refine cond_t (by rfl) ?_
            | refine cond_f (by rfl) ?_
            | refine ite_of (by first | rfl | assumption) ?_
            | refine bind_of (by simp [-loadV, -storeV, -Int.natCast_add, loadV_ip, hlt, hix, hl8, him, hs, w1, nextS_same] <;> rfl) ?_)
        | false =>
          rw [hb] at hs
          unfold F9_L1
          simp only [Bool.not_false, if_true]
          repeat (first
            | rfl
            | refine cond_t (by rfl) ?_
            | refine cond_f (by rfl) ?_
            | refine ite_of (by first | rfl | assumption) ?_
            | refine bind_of (by simp [-loadV, -storeV, -Int.natCast_add, loadV_ip, hlt, hix, hl8, him, hs] <;> rfl) ?_))
      (by simp [F9_L1])
    have hlen : lenV (.sl (reps l) t) = some (i64 l.length) := by simp
    simp only [Int.natCast_zero, i64] at key
    rcases key with ⟨k, k1, k2, k3, k4, k5⟩ | ⟨k1, k2⟩
    · refine ⟨false, ?_, by simp⟩
      refine bind_of hlen ?_
      refine bind_of (a := .bool false) (by simp [h]) ?_
      refine cond_f rfl ?_
      refine bind_of k5 ?_
      simp [finish]
    · refine ⟨true, ?_, fun _ => ⟨by omega, fun r hr => ?_⟩⟩
      · refine bind_of hlen ?_
        refine bind_of (a := .bool false) (by simp [h]) ?_
        refine cond_f rfl ?_
        refine bind_of k2 ?_
        simp [finish]
      · obtain ⟨i, hi, rfl⟩ := List.getElem_of_mem hr
        have := k1 i (Nat.zero_le _) (by omega)
        rw [List.getD_eq_getElem?_getD, List.getElem?_eq_getElem hi] at this
        simpa using this
end Go.Proofs.YtlilahgndpdkfaaDoor
