/-
  Texts of this claim: TlPlace, TlPlace2, TlPlace3, TlGenP.
-/
import Derived.Test.YtlilahgndpdkfaaDoorOwn7
import Derived.Test.YtlilahgndpdkfaaDoorOwn9
import Derived.Test.YtlilahgndpdkfaaDoorOwn10
import Derived.Test.YtlilahgndpdkfaaDoorOwn13
set_option linter.all false
/-
  What the functions of the reference of places answer.
-/
namespace Go.Proofs.YtlilahgndpdkfaaDoor
open Go Go.Abs

set_option maxHeartbeats 4000000 in
theorem p_Corners {f : Int} (h1 : 0 ≤ f) (h2 : f < 20) (S : Store) : call 97 [i64 f] S = some (.tup [.agg ((corn f).map i64), i64 0], S) := by
  rw [k97]
  unfold F97
  rcases face_cases h1 h2 with rfl | rfl | rfl | rfl | rfl | rfl | rfl | rfl | rfl | rfl | rfl | rfl | rfl | rfl | rfl | rfl | rfl | rfl | rfl | rfl <;>
    simp [finish, corn, cornL, i64]

end Go.Proofs.YtlilahgndpdkfaaDoor

/-
  What the functions of the reference of places answer: whether a place is one, its weights, its addresses, the normal place.
-/
namespace Go.Proofs.YtlilahgndpdkfaaDoor
open Go Go.Abs

set_option maxHeartbeats 4000000 in
theorem p_Valid (p : Pl) (S : Store) : call 78 [.agg (plC p)] S = some (.bool (validPl p), S) := by
  rw [k78]
  unfold F78
  have him : imms (cellsOf (AV.agg (plC p))) = some (plC p) := imms_plC
  cases p with
  | mk f a b c =>
  by_cases h1 : 0 ≤ f
  · by_cases h2 : f < 20
    · by_cases h3 : 0 ≤ a
      · by_cases h4 : a ≤ 840
        · by_cases h5 : 0 ≤ b
          · by_cases h6 : b ≤ 840
            · by_cases h7 : 0 ≤ c
              · by_cases h8 : c ≤ 840
                · have e : validPl ⟨f, a, b, c⟩ = (a + b + c == 840) := by simp [validPl, *]
                  rw [e]
                  have w1 : IntKind.i64.wrap (a + b) = a + b := wrap_in (by unfold In64; omega)
                  have w2 : IntKind.i64.wrap (a + b + c) = a + b + c := wrap_in (by unfold In64; omega)
                  refine bind_of him ?_
                  simp only [plC]
                  repeat (first
                    | rfl
                    | refine cond_t (by rfl) ?_
                    | refine cond_f (by rfl) ?_
                    | refine ite_of (by first | rfl | assumption) ?_
                    | refine bind_of (by simp [-loadV, -storeV, -Int.natCast_add, loadV_ip, h1, h2, h3, h4, h5, h6, h7, h8, w1, w2] <;> rfl) ?_)
                  simp
                · have e : validPl ⟨f, a, b, c⟩ = false := by simp [validPl, *]
                  rw [e]
                  refine bind_of him ?_
                  simp only [plC]
                  repeat (first
                    | rfl
                    | refine cond_t (by rfl) ?_
                    | refine cond_f (by rfl) ?_
                    | refine ite_of (by first | rfl | assumption) ?_
                    | refine bind_of (by simp [-loadV, -storeV, -Int.natCast_add, loadV_ip, h1, h2, h3, h4, h5, h6, h7, h8] <;> rfl) ?_)
                  simp
              · have e : validPl ⟨f, a, b, c⟩ = false := by simp [validPl, *]
                rw [e]
                refine bind_of him ?_
                simp only [plC]
                repeat (first
                  | rfl
                  | refine cond_t (by rfl) ?_
                  | refine cond_f (by rfl) ?_
                  | refine ite_of (by first | rfl | assumption) ?_
                  | refine bind_of (by simp [-loadV, -storeV, -Int.natCast_add, loadV_ip, h1, h2, h3, h4, h5, h6, h7] <;> rfl) ?_)
                simp
            · have e : validPl ⟨f, a, b, c⟩ = false := by simp [validPl, *]
              rw [e]
              refine bind_of him ?_
              simp only [plC]
              repeat (first
                | rfl
                | refine cond_t (by rfl) ?_
                | refine cond_f (by rfl) ?_
                | refine ite_of (by first | rfl | assumption) ?_
                | refine bind_of (by simp [-loadV, -storeV, -Int.natCast_add, loadV_ip, h1, h2, h3, h4, h5, h6] <;> rfl) ?_)
              simp
          · have e : validPl ⟨f, a, b, c⟩ = false := by simp [validPl, *]
            rw [e]
            refine bind_of him ?_
            simp only [plC]
            repeat (first
              | rfl
              | refine cond_t (by rfl) ?_
              | refine cond_f (by rfl) ?_
              | refine ite_of (by first | rfl | assumption) ?_
              | refine bind_of (by simp [-loadV, -storeV, -Int.natCast_add, loadV_ip, h1, h2, h3, h4, h5] <;> rfl) ?_)
            simp
        · have e : validPl ⟨f, a, b, c⟩ = false := by simp [validPl, *]
          rw [e]
          refine bind_of him ?_
          simp only [plC]
          repeat (first
            | rfl
            | refine cond_t (by rfl) ?_
            | refine cond_f (by rfl) ?_
            | refine ite_of (by first | rfl | assumption) ?_
            | refine bind_of (by simp [-loadV, -storeV, -Int.natCast_add, loadV_ip, h1, h2, h3, h4] <;> rfl) ?_)
          simp
      · have e : validPl ⟨f, a, b, c⟩ = false := by simp [validPl, *]
        rw [e]
        refine bind_of him ?_
        simp only [plC]
        repeat (first
          | rfl
          | refine cond_t (by rfl) ?_
          | refine cond_f (by rfl) ?_
          | refine ite_of (by first | rfl | assumption) ?_
          | refine bind_of (by simp [-loadV, -storeV, -Int.natCast_add, loadV_ip, h1, h2, h3] <;> rfl) ?_)
        simp
    · have e : validPl ⟨f, a, b, c⟩ = false := by simp [validPl, *]
      rw [e]
      refine bind_of him ?_
      simp only [plC]
      repeat (first
        | rfl
        | refine cond_t (by rfl) ?_
        | refine cond_f (by rfl) ?_
        | refine ite_of (by first | rfl | assumption) ?_
        | refine bind_of (by simp [-loadV, -storeV, -Int.natCast_add, loadV_ip, h1, h2] <;> rfl) ?_)
      simp
  · have e : validPl ⟨f, a, b, c⟩ = false := by simp [validPl, *]
    rw [e]
    refine bind_of him ?_
    simp only [plC]
    repeat (first
      | rfl
      | refine cond_t (by rfl) ?_
      | refine cond_f (by rfl) ?_
      | refine ite_of (by first | rfl | assumption) ?_
      | refine bind_of (by simp [-loadV, -storeV, -Int.natCast_add, loadV_ip, h1] <;> rfl) ?_)
    simp

end Go.Proofs.YtlilahgndpdkfaaDoor

/-
  What the functions of the reference of places answer: the weights of a place, its addresses, the normal place.
-/
namespace Go.Proofs.YtlilahgndpdkfaaDoor
open Go Go.Abs

theorem ix12 (cs : List AV) {k : Nat} (hk : k < 12) : indexAV 1 (some 12) (.ip cs 0) (.int .i64 (k : Int)) = some (.ip cs k) := by
  simp only [indexAV]
  rw [if_pos (by omega)]
  simp
theorem ix3_0 (cs : List AV) : indexAV 1 (some 3) (.ip cs 0) (.int .i64 0) = some (.ip cs 0) := rfl
theorem ix3_1 (cs : List AV) : indexAV 1 (some 3) (.ip cs 0) (.int .i64 1) = some (.ip cs 1) := rfl
theorem ix3_2 (cs : List AV) : indexAV 1 (some 3) (.ip cs 0) (.int .i64 2) = some (.ip cs 2) := rfl
theorem px12 (j : Nat) {k : Nat} (hk : k < 12) : indexAV 1 (some 12) (.ptr j 0) (.int .i64 (k : Int)) = some (.ptr j k) := by
  simp only [indexAV]
  rw [if_pos (by omega)]
  simp
theorem ld12 {w : List Int} (hw : w.length = 12) {k : Nat} (hk : k < 12) (S : Store) : loadV none (.ip (w.map i64) k) S = some (i64 (w.getD k 0)) := by
  rw [loadV_ip, take_none]
  simp [List.getD_eq_getElem?_getD, List.getElem?_eq_getElem (show k < w.length by omega)]
theorem imms_is (l : List Int) : imms (l.map i64) = some (l.map i64) := by
  induction l with
  | nil => rfl
  | cons a l ih => simp [ih]
theorem cells1_is (l : List Int) : cells1 (l.map i64) = some (l.map i64) := by
  induction l with
  | nil => rfl
  | cons a l ih => simp [ih]
theorem belows_is (n : Nat) (l : List Int) : belows n (l.map i64) = true := by
  induction l with
  | nil => rfl
  | cons a l ih => simp_all

/-- One number put into an entry of the call's own. -/
theorem put_is {S es : Store} {k o n : Nat} {w : List Int} {v : Int} (he : es[k]? = some (.obj (w.map i64))) (ho : o < w.length) (hn : n = S.length) :
    storeV n 1 (.ptr (S.length + k) o) (i64 v) (S ++ es) = some (S ++ es.set k (.obj ((w.set o v).map i64))) := by
  subst hn
  have h1 : (S ++ es)[S.length + k]? = some (.obj (w.map i64)) := by rw [List.getElem?_append_right (by omega)]; simpa using he
  simp only [storeV, h1, blt_false (Nat.le_add_right _ _), cond_false]
  rw [show cells1 (cellsOf (i64 v)) = some [i64 v] from rfl, Option.bind_some, if_pos ⟨rfl, by simp; omega⟩, List.set_append_right _ _ (by omega)]
  simp [setC, List.map_set]

set_option maxHeartbeats 4000000 in
theorem p_On {f : Int} (h1 : 0 ≤ f) (h2 : f < 20) {w : List Int} (hw : w.length = 12) (hb : ∀ k, 0 ≤ w.getD k 0 ∧ w.getD k 0 ≤ 840) (S : Store) :
    call 80 [i64 f, .agg (w.map i64)] S = some (.tup [.agg (plC (onA f w)), .bool (okA (onA f w))], S) := by
  rw [k80]
  unfold F80
  obtain ⟨c0, c1, c2, _, _, _, hc⟩ := corn_lt h1 h2
  have hC := p_Corners h1 h2 (S ++ [.obj [(.int .i64 0), (.int .i64 0), (.int .i64 0), (.int .i64 0)]])
  rw [hc] at hC
  have x0 := ix12 (w.map i64) c0
  have x1 := ix12 (w.map i64) c1
  have x2 := ix12 (w.map i64) c2
  have l0 := ld12 hw c0
  have l1 := ld12 hw c1
  have l2 := ld12 hw c2
  have b0 := hb (cor f 0)
  have b1 := hb (cor f 1)
  have b2 := hb (cor f 2)
  have e0 : onA f w = ⟨f, w.getD (cor f 0) 0, w.getD (cor f 1) 0, w.getD (cor f 2) 0⟩ := rfl
  rw [e0]
  generalize w.getD (cor f 0) 0 = p0 at *
  generalize w.getD (cor f 1) 0 = p1 at *
  generalize w.getD (cor f 2) 0 = p2 at *
  have w1 : IntKind.i64.wrap (p0 + p1) = p0 + p1 := wrap_in (by unfold In64; omega)
  have w2 : IntKind.i64.wrap (p0 + p1 + p2) = p0 + p1 + p2 := wrap_in (by unfold In64; omega)
  refine bind_of (imms_is w) ?_
  generalize cor f 0 = k0 at *
  generalize cor f 1 = k1 at *
  generalize cor f 2 = k2 at *
  generalize w.map i64 = W at *
  simp only [List.map_cons, List.map_nil] at hC
  repeat (first
    | rfl
    | refine cond_t (by rfl) ?_
    | refine cond_f (by rfl) ?_
    | refine ite_of (by first | rfl | assumption) ?_
    | refine bind_of (by simp [-loadV, -storeV, -Int.natCast_add, loadV_ip, hC, x0, x1, x2, l0, l1, l2, w1, w2, ix3_0, ix3_1, ix3_2] <;> rfl) ?_)
  exact Ap.ret2 (vs := [.int .i64 f, .int .i64 p0, .int .i64 p1, .int .i64 p2]) rfl rfl rfl (by simp) rfl rfl rfl (by simp)

theorem getD_map_i64 (l : List Int) (k : Nat) : (l.map i64).getD k (i64 0) = i64 (l.getD k 0) := by
  simp only [List.getD_eq_getElem?_getD, List.getElem?_map]
  cases l[k]? <;> rfl

set_option maxHeartbeats 4000000 in
theorem p_Weights {p : Pl} (h : validPl p = true) (S : Store) : call 79 [.agg (plC p)] S = some (.agg ((wts p).map i64), S) := by
  rw [k79]
  unfold F79
  obtain ⟨f1, f2, _⟩ := validPl_iff.1 h
  obtain ⟨c0, c1, c2, _, _, _, hc⟩ := corn_lt f1 f2
  obtain ⟨es, hes⟩ : ∃ es : Store, es = [.obj ((List.replicate 12 (0 : Int)).map i64), .obj ((List.replicate 12 (0 : Int)).map i64)] := ⟨_, rfl⟩
  have hC := p_Corners f1 f2 (S ++ es)
  rw [hc] at hC
  simp only [List.map_cons, List.map_nil] at hC
  have hS : S ++ [Ent.obj [(.int .i64 0), (.int .i64 0), (.int .i64 0), (.int .i64 0), (.int .i64 0), (.int .i64 0), (.int .i64 0), (.int .i64 0), (.int .i64 0), (.int .i64 0), (.int .i64 0), (.int .i64 0)]] ++ [Ent.obj [(.int .i64 0), (.int .i64 0), (.int .i64 0), (.int .i64 0), (.int .i64 0), (.int .i64 0), (.int .i64 0), (.int .i64 0), (.int .i64 0), (.int .i64 0), (.int .i64 0), (.int .i64 0)]] = S ++ es := by simp [hes, List.replicate]
  dsimp only
  rw [hS]
  have hl2 : (S ++ [Ent.obj [(.int .i64 0), (.int .i64 0), (.int .i64 0), (.int .i64 0), (.int .i64 0), (.int .i64 0), (.int .i64 0), (.int .i64 0), (.int .i64 0), (.int .i64 0), (.int .i64 0), (.int .i64 0)]]).length = S.length + 1 := by simp
  rw [hl2]
  refine bind_of imms_plC ?_
  have x0 := px12 (S.length + 1) c0
  have x1 := px12 (S.length + 1) c1
  have x2 := px12 (S.length + 1) c2
  have s0 := put_is (S := S) (es := es) (k := 1) (o := cor p.face 0) (w := List.replicate 12 0) (v := p.a) (by rw [hes]; rfl) (by simpa using c0) rfl
  rw [show es.set 1 (Ent.obj (((List.replicate 12 (0 : Int)).set (cor p.face 0) p.a).map i64)) = [.obj ((List.replicate 12 (0 : Int)).map i64), .obj (((List.replicate 12 (0 : Int)).set (cor p.face 0) p.a).map i64)] by rw [hes]; rfl] at s0
  have s1 := put_is (S := S) (es := [.obj ((List.replicate 12 (0 : Int)).map i64), .obj (((List.replicate 12 (0 : Int)).set (cor p.face 0) p.a).map i64)]) (k := 1) (o := cor p.face 1) (w := (List.replicate 12 0).set (cor p.face 0) p.a) (v := p.b) rfl (by simpa using c1) rfl
  have s2 := put_is (S := S) (es := [.obj ((List.replicate 12 (0 : Int)).map i64), .obj ((((List.replicate 12 (0 : Int)).set (cor p.face 0) p.a).set (cor p.face 1) p.b).map i64)]) (k := 1) (o := cor p.face 2) (w := ((List.replicate 12 0).set (cor p.face 0) p.a).set (cor p.face 1) p.b) (v := p.c) rfl (by simpa using c2) rfl
  have l1 := Ap.loadA (S := S) (es := [.obj ((List.replicate 12 (0 : Int)).map i64), .obj ((wts p).map i64)]) (k := 1) (n := 12) rfl (by simp)
  simp only [plC, List.set_cons_succ, List.set_cons_zero] at *
  clear hes hS hl2
  have hE : (((List.replicate 12 (0 : Int)).set (cor p.face 0) p.a).set (cor p.face 1) p.b).set (cor p.face 2) p.c = wts p := rfl
  rw [hE] at s2
  have rt := Ap.ret1 (S := S) (es := [.obj ((List.replicate 12 (0 : Int)).map i64), .obj ((wts p).map i64)]) (n := 12) (cs := (List.replicate 12 (0 : Int)).map i64) (vs := (wts p).map i64) rfl (cells1_is _) (imms_is _) (belows_is _ _) (by simp) (by simp)
  generalize (wts p).map i64 = E3 at *
  generalize (((List.replicate 12 (0 : Int)).set (cor p.face 0) p.a).set (cor p.face 1) p.b).map i64 = E2 at *
  generalize ((List.replicate 12 (0 : Int)).set (cor p.face 0) p.a).map i64 = E1 at *
  generalize (List.replicate 12 (0 : Int)).map i64 = E0 at *
  repeat (first
    | rfl
    | refine cond_t (by rfl) ?_
    | refine cond_f (by rfl) ?_
    | refine ite_of (by first | rfl | assumption) ?_
    | refine bind_of (by simp [-loadV, -storeV, -Int.natCast_add, loadV_ip, hC, x0, x1, x2, s0, s1, s2, ix3_0, ix3_1, ix3_2, l1] <;> rfl) ?_)
  exact rt

/-! ### All addresses -/

def adrsTo (p : Pl) (n : Nat) : List Pl := ((List.range n).map fun f => onA (f : Nat) (wts p)).filter okA
theorem adrsTo_succ (p : Pl) (n : Nat) : adrsTo p (n + 1) = adrsTo p n ++ (if okA (onA (n : Nat) (wts p)) then [onA (n : Nat) (wts p)] else []) := by
  simp only [adrsTo, List.range_succ, List.map_append, List.filter_append, List.map_cons, List.map_nil, List.filter_cons, List.filter_nil]
theorem adrsTo_le (p : Pl) (n : Nat) : (adrsTo p n).length ≤ n := by
  refine Nat.le_trans (List.length_filter_le _ _) ?_
  simp

set_option maxHeartbeats 4000000 in
theorem p_Addresses {p : Pl} (h : validPl p = true) (S : Store) : call 59 [.agg (plC p)] S = some (.tup [.sl (pls (addrs p)) .none, i64 0], S) := by
  rw [k59]
  unfold F59
  have hv := p_Valid p S
  rw [h] at hv
  have hw := p_Weights h S
  have ow : ownV 4 (.sl [] .full) S = some (.sl [] (.own S.length), S ++ [.tail 0 4]) := rfl
  have key := iter_run (step := fun s => F59_L1 call S.length (.ip ((wts p).map i64) 0) (s.1.getD 0 .u) (s.1.getD 1 .u) s.2) (fun k => ([.sl (pls (adrsTo p k)) (.own S.length), i64 (k : Nat)], S ++ [.tail (adrsTo p k).length 4])) (r := (Ex.exit 0, [.sl (pls (addrs p)) (.own S.length)], S ++ [.tail (addrs p).length 4])) 20 0
    (fun k _ hk => by
      have hk : k < 20 := by omega
      have hlt : (k : Int) < 20 := by omega
      have ho := p_On (f := (k : Int)) (w := wts p) (by omega) (by omega) wts_length (wts_get h) (S ++ [.tail (adrsTo p k).length 4])
      have w1 : IntKind.i64.wrap ((k : Int) + 1) = ((k + 1 : Nat) : Int) := by rw [wrap_in (by unfold In64; omega)]; omega
      have hl : takeC (some 12) ((wts p).map i64) 0 = some (.agg ((wts p).map i64)) := by rw [takeC, if_pos (by simp), List.drop_zero, List.take_of_length_le (by simp)]
      have him := imms_is (wts p)
      have hle := adrsTo_le p k
      have nx : ∀ vs n, nextS S.length (S.length + 1) vs (S ++ [.tail n 4]) = some (vs, S ++ [.tail n 4]) := fun vs n => nextS_eq (by simp)
      have ap : appendV 4 (.sl (pls (adrsTo p k)) (.own S.length)) (.sl [plC (onA (k : Nat) (wts p))] .full) (S ++ [.tail (adrsTo p k).length 4]) = some (.sl (pls (adrsTo p k) ++ [plC (onA (k : Nat) (wts p))]) (.own S.length), S ++ [.tail ((adrsTo p k).length + 1) 4]) := by
        have hi : immRows 4 [plC (onA (k : Nat) (wts p))] = some [plC (onA (k : Nat) (wts p))] := by simp [immRows]
        have hg : (S ++ [Ent.tail (adrsTo p k).length 4])[S.length]? = some (.tail (adrsTo p k).length 4) := Ap.get (k := 0)
        simp only [appendV, rowsOf_sl, Option.bind_some, hi, hg]
        rw [if_pos (by simp [room]; omega), if_pos ⟨by simp, trivial⟩, List.set_append_right _ _ (Nat.le_refl _)]
        simp
      have e1 : pls (adrsTo p k) ++ [plC (onA (k : Nat) (wts p))] = pls (adrsTo p k ++ [onA (k : Nat) (wts p)]) := by simp [pls]
      rw [adrsTo_succ]
      generalize adrsTo p k = A at *
      unfold F59_L1
      have hc : imms (plC (onA (k : Nat) (wts p))) = some (plC (onA (k : Nat) (wts p))) := imms_plC
      have hl4 : takeC (some 4) (plC (onA (k : Nat) (wts p))) 0 = some (.agg (plC (onA (k : Nat) (wts p)))) := rfl
      have hpl : (plC (onA (k : Nat) (wts p))).length = 4 := rfl
      have hbs : bsliceV 4 [plC (onA (k : Nat) (wts p))] = some (.sl [plC (onA (k : Nat) (wts p))] .full) := by simp [bsliceV, immRows]
      rw [List.length_append]
      generalize plC (onA (k : Nat) (wts p)) = q at *
      generalize (wts p).map i64 = W at *
      cases hok : okA (onA (k : Nat) (wts p)) with
      | true =>
        rw [hok] at ho
        simp only [if_true, List.length_singleton]
        rw [← e1]
        simp only [List.length_append, List.length_singleton] at *
        have nx' := nx
        unfold F59_J1
        repeat (first
          | rfl
          | refine cond_t (by rfl) ?_
          | refine cond_f (by rfl) ?_
          | refine ite_of (by first | rfl | assumption) ?_
          | refine bind_of (by simp [-loadV, -storeV, -Int.natCast_add, loadV_ip, hlt, hl, him, ho, hc, hl4, hpl, hbs, ap, ownV, w1, nx] <;> rfl) ?_)
      | false =>
        rw [hok] at ho
        simp only [Bool.false_eq_true, if_false, List.append_nil, List.length_nil, Nat.add_zero, List.length_append, List.length_singleton] at *
        unfold F59_J1
        repeat (first
          | rfl
          | refine cond_t (by rfl) ?_
          | refine cond_f (by rfl) ?_
          | refine ite_of (by first | rfl | assumption) ?_
          | refine bind_of (by simp [-loadV, -storeV, -Int.natCast_add, loadV_ip, hlt, hl, him, ho, hc, hl4, hpl, w1, nx] <;> rfl) ?_))
    (by
      simp [F59_L1]
      exact ⟨rfl, rfl⟩)
  have him := imms_is (wts p)
  have hpl : imms (cellsOf (.agg (plC p))) = some (plC p) := imms_plC
  have hl4 : takeC (some 4) (plC p) 0 = some (.agg (plC p)) := rfl
  have hc : imms (plC p) = some (plC p) := imms_plC
  have hlen : ((wts p).map i64).length = 12 := by simp
  have hb : Nat.blt S.length S.length = false := blt_false (Nat.le_refl _)
  simp only [Int.natCast_zero, i64] at key
  have e0 : adrsTo p 0 = [] := rfl
  rw [e0] at key
  generalize addrs p = A at *
  have hpc : (plC p).length = 4 := rfl
  have fin : finish false S.length [.sl (pls A) (.own S.length), .int .i64 0] (S ++ [.tail A.length 4]) = some (.tup [.sl (pls A) .none, i64 0], S) := by
    simp [finish, hb]
  generalize (wts p).map i64 = W at *
  generalize plC p = q at *
  refine bind_of hpl ?_
  repeat (first
    | rfl
    | refine cond_t (by rfl) ?_
    | refine cond_f (by rfl) ?_
    | refine ite_of (by first | rfl | assumption) ?_
    | refine bind_of (by simp [-loadV, -storeV, -Int.natCast_add, loadV_ip, hl4, hc, hv, hw, him, hlen, ow] <;> rfl) ?_)
  refine bind_of key ?_
  exact fin

theorem p_Normal {p : Pl} (h : validPl p = true) (S : Store) : call 46 [.agg (plC p)] S = some (.tup [.agg (plC (normP p)), i64 0], S) := by
  rw [k46]
  unfold F46
  have hA := p_Addresses h (S ++ [.obj [(.int .i64 0), (.int .i64 0), (.int .i64 0), (.int .i64 0)]])
  obtain ⟨q, l, hq⟩ : ∃ q l, addrs p = q :: l := by
    cases ha : addrs p with
    | nil => exact absurd ha (addrs_ne h)
    | cons q l => exact ⟨q, l, rfl⟩
  have hn : normP p = q := by unfold normP; rw [hq]; rfl
  rw [hn]
  rw [hq] at hA
  have hix : indexAV 4 none (.sl (pls (q :: l)) .none) (.int .i64 0) = some (.ip (plC q) 0) := rfl
  have hl4 : takeC (some 4) (plC q) 0 = some (.agg (plC q)) := rfl
  have hl4' : takeC (some 4) (plC p) 0 = some (.agg (plC p)) := rfl
  have hc : imms (plC p) = some (plC p) := imms_plC
  have rt := Ap.ret2 (S := S) (es := [.obj [(.int .i64 0), (.int .i64 0), (.int .i64 0), (.int .i64 0)]]) (n := 4) (vs := plC q) (x := .int .i64 0) rfl cells1_plC imms_plC (by simp [plC]) rfl rfl rfl (by simp)
  generalize plC q = c at *
  refine bind_of (show imms (cellsOf (.agg (plC p))) = some (plC p) from hc) ?_
  generalize plC p = d at *
  repeat (first
    | rfl
    | refine cond_t (by rfl) ?_
    | refine cond_f (by rfl) ?_
    | refine ite_of (by first | rfl | assumption) ?_
    | refine bind_of (by simp [-loadV, -storeV, -Int.natCast_add, loadV_ip, hl4', hc, hA, hix, hl4] <;> rfl) ?_)
  exact rt

end Go.Proofs.YtlilahgndpdkfaaDoor

/-
  What the makers of given data answer: places.
-/
namespace Go.Proofs.YtlilahgndpdkfaaDoor
open Go Go.Abs

section
variable {S : Store} {i : Nat} {L : List Int}

abbrev plE (p : Pl) : Store := [.obj [.int .i64 0, .int .i64 0, .int .i64 0, .int .i64 0], .obj (plC p)]

theorem pl_put {a k : Nat} {p q : Pl} {v : Int} (hk : k < 4) (h : (plC p).set k (i64 v) = plC q) :
    storeV S.length 1 (.ptr (S.length + 1) k) (i64 v) (Sr S i L a (plE p)) = some (Sr S i L a (plE q)) := by
  have := Stt.store (S := S) (i := i) (e := srcE L a) (es := plE p) (k := 1) (o := k) (n := 1) (v := i64 v) (cs := plC p) (vs := [i64 v]) rfl rfl rfl (by simp; omega)
  rw [this]
  simp only [setC, h, plE, List.set_cons_succ, List.set_cons_zero]

theorem pl_get {a k : Nat} {p : Pl} {v : Int} (h : (plC p)[k]? = some (i64 v)) : loadV none (.ptr (S.length + 1) k) (Sr S i L a (plE p)) = some (i64 v) := by
  rw [Stt.load (k := 1) (cs := plC p) rfl, take_none, h]

def MadeP (v : AV) : Prop := ∃ p : Pl, validPl p = true ∧ v = .agg (plC (normP p))

set_option maxHeartbeats 2000000 in
theorem g_PlaceJ2 {a : Nat} {p : Pl} (hs : Sc S i L a) (h1 : 0 ≤ p.face) (h2 : p.face < 20) (h3 : 0 ≤ p.a) (h4 : 0 ≤ p.b) (h5 : p.a + p.b ≤ 840) :
    Ev (F32_J2 call S.length (.ptr S.length 0) (.ptr (S.length + 1) 0) (Sr S i L a (plE p))) fun r => ∃ v a', Sc S i L a' ∧ MadeP v ∧ r = (v, Sr S i L a' []) := by
  unfold F32_J2
  have g1 := pl_get (S := S) (i := i) (L := L) (a := a) (k := 1) (p := p) (v := p.a) rfl
  have g2 := pl_get (S := S) (i := i) (L := L) (a := a) (k := 2) (p := p) (v := p.b) rfl
  let q : Pl := ⟨p.face, p.a, p.b, 840 - p.a - p.b⟩
  have hq : validPl q = true := validPl_iff.2 ⟨h1, h2, h3, by show p.a ≤ 840; omega, h4, by show p.b ≤ 840; omega, by show 0 ≤ 840 - p.a - p.b; omega, by show 840 - p.a - p.b ≤ 840; omega, by show p.a + p.b + (840 - p.a - p.b) = 840; omega⟩
  have s1 := pl_put (S := S) (i := i) (L := L) (a := a) (k := 3) (p := p) (q := q) (v := 840 - p.a - p.b) (by omega) rfl
  have l1 := Stt.loadA (S := S) (i := i) (e := srcE L a) (k := 1) (es := plE q) (n := 4) rfl rfl
  have hn := p_Normal hq (Sr S i L a (plE q))
  have hc : imms (plC q) = some (plC q) := imms_plC
  have hc2 : imms (plC (normP q)) = some (plC (normP q)) := imms_plC
  have hl2 : takeC (some 4) (plC (normP q)) 0 = some (.agg (plC (normP q))) := rfl
  have st := Stt.storeA0 (S := S) (i := i) (e := srcE L a) (es := plE q) (n := 4) rfl (cells1_plC (p := normP q)) rfl rfl
  have l2 := Stt.loadA0 (S := S) (i := i) (e := srcE L a) (es := [.obj (plC (normP q)), .obj (plC q)]) (n := 4) rfl rfl
  have hlen : (plC (normP q)).length = 4 := rfl
  have hb : belows S.length (plC (normP q)) = true := by simp [plC]
  have hQ : MadeP (.agg (plC (normP q))) := ⟨q, hq, rfl⟩
  simp only [List.set_cons_zero] at st
  clear_value q
  generalize plC (normP q) = c at *
  have hcq : imms (plC q) = some (plC q) := hc
  generalize plC q = d at *
  repeat (first
    | refine Ev.fin (by simp [g1, g2, s1, l1, hc, hn, hc2, hl2, st, l2, hb] <;> rfl) (by simp [g1, g2, s1, l1, hc, hn, hc2, hl2, st, l2, hb]) ?_
    | refine Ev.t (by rfl) ?_
    | refine Ev.f (by rfl) ?_
    | refine Ev.ite (by first | rfl | assumption) ?_
    | refine Ev.to (by simp (disch := omega) [-loadV, -storeV, -Int.natCast_add, loadV_ip, g1, g2, s1, l1, hc, hn, hc2, hl2, st, l2, hb] <;> rfl) ?_)
  exact ⟨_, a, hs, hQ, rfl⟩

set_option maxHeartbeats 2000000 in
theorem g_PlaceJ1 {a : Nat} {p : Pl} (hs : Sc S i L a) (h1 : 0 ≤ p.face) (h2 : p.face < 20) (h3 : 0 ≤ p.a) (h5 : p.a ≤ 840) :
    Ev (F32_J1 call S.length (.ptr i 0) (.ptr S.length 0) (.ptr (S.length + 1) 0) (Sr S i L a (plE p))) fun r => ∃ v a', Sc S i L a' ∧ MadeP v ∧ r = (v, Sr S i L a' []) := by
  unfold F32_J1
  have g1 := pl_get (S := S) (i := i) (L := L) (a := a) (k := 1) (p := p) (v := p.a) rfl
  repeat (first
    | refine Ev.fin (by simp [g1] <;> rfl) (by simp [g1]) ?_
    | refine Ev.t (by rfl) ?_
    | refine Ev.f (by rfl) ?_
    | refine Ev.ite (by first | rfl | assumption) ?_
    | refine Ev.to (by simp (disch := omega) [-loadV, -storeV, -Int.natCast_add, loadV_ip, g1] <;> rfl) ?_)
  refine Ev.bind (e_N (by assumption) (by omega) (by omega)) ?_
  rintro _ ⟨v1, a1, k1, b1, b2, rfl⟩
  try dsimp only
  have s1 := pl_put (S := S) (i := i) (L := L) (a := a1) (k := 2) (p := p) (q := { p with b := v1 }) (v := v1) (by omega) rfl
  repeat (first
    | refine Ev.fin (by simp [s1] <;> rfl) (by simp [s1]) ?_
    | refine Ev.t (by rfl) ?_
    | refine Ev.f (by rfl) ?_
    | refine Ev.ite (by first | rfl | assumption) ?_
    | refine Ev.to (by simp (disch := omega) [-loadV, -storeV, -Int.natCast_add, loadV_ip, s1] <;> rfl) ?_)
  refine Ev.bind (e_N (by assumption) (by omega) (by omega)) ?_
  rintro _ ⟨v2, a2, k2, _, _, rfl⟩
  try dsimp only
  repeat (first
    | refine Ev.fin (by simp [] <;> rfl) (by simp []) ?_
    | refine Ev.t (by rfl) ?_
    | refine Ev.f (by rfl) ?_
    | refine Ev.ite (by first | rfl | assumption) ?_
    | refine Ev.to (by simp (disch := omega) [-loadV, -storeV, -Int.natCast_add, loadV_ip] <;> rfl) ?_)
  have e0 : ∀ a, loadV none (.ptr (S.length + 1) 2) (Sr S i L a (plE { p with b := v1 })) = some (i64 v1) := fun a => pl_get rfl
  refine Ev.beq (fun _ => ?_) (fun _ => ?_)
  · have e1 := e0 a2
    have hm := Int.tmod_nonneg 105 b1
    have hm2 : v1.tmod 105 ≤ v1 := by
      rw [Int.tmod_eq_emod_of_nonneg b1]
      omega
    have s2 := pl_put (S := S) (i := i) (L := L) (a := a2) (k := 2) (p := { p with b := v1 }) (q := { p with b := v1 - v1.tmod 105 }) (v := v1 - v1.tmod 105) (by omega) rfl
    repeat (first
      | refine Ev.fin (by simp [e1, s2] <;> rfl) (by simp [e1, s2]) ?_
      | refine Ev.t (by rfl) ?_
      | refine Ev.f (by rfl) ?_
      | refine Ev.ite (by first | rfl | assumption) ?_
      | refine Ev.to (by simp (disch := omega) [-loadV, -storeV, -Int.natCast_add, loadV_ip, e1, s2] <;> rfl) ?_)
    exact g_PlaceJ2 k2 h1 h2 h3 (by show 0 ≤ v1 - v1.tmod 105; omega) (by show p.a + (v1 - v1.tmod 105) ≤ 840; omega)
  · exact g_PlaceJ2 k2 h1 h2 h3 b1 (by show p.a + v1 ≤ 840; omega)

end

set_option maxHeartbeats 2000000 in
theorem g_Place (i : Nat) : Maker 32 [.ptr i 0] i MadeP := by
  intro S L a hs
  unfold Mk
  rw [k32]
  unfold F32
  simp only [Stt.length, List.length_nil, Nat.add_zero, Stt.app, List.nil_append]
  repeat (first
    | refine Ev.fin (by simp [] <;> rfl) (by simp []) ?_
    | refine Ev.t (by rfl) ?_
    | refine Ev.f (by rfl) ?_
    | refine Ev.ite (by first | rfl | assumption) ?_
    | refine Ev.to (by simp (disch := omega) [-loadV, -storeV, -Int.natCast_add, loadV_ip] <;> rfl) ?_)
  refine Ev.bind (e_N (by assumption) (by omega) (by omega)) ?_
  rintro _ ⟨v1, a1, k1, b1, b2, rfl⟩
  try dsimp only
  repeat (first
    | refine Ev.fin (by simp [] <;> rfl) (by simp []) ?_
    | refine Ev.t (by rfl) ?_
    | refine Ev.f (by rfl) ?_
    | refine Ev.ite (by first | rfl | assumption) ?_
    | refine Ev.to (by simp (disch := omega) [-loadV, -storeV, -Int.natCast_add, loadV_ip] <;> rfl) ?_)
  refine Ev.bind (e_N (by assumption) (by omega) (by omega)) ?_
  rintro _ ⟨v2, a2, k2, c1, c2, rfl⟩
  try dsimp only
  repeat (first
    | refine Ev.fin (by simp [] <;> rfl) (by simp []) ?_
    | refine Ev.t (by rfl) ?_
    | refine Ev.f (by rfl) ?_
    | refine Ev.ite (by first | rfl | assumption) ?_
    | refine Ev.to (by simp (disch := omega) [-loadV, -storeV, -Int.natCast_add, loadV_ip] <;> rfl) ?_)
  simp only [Stt.length, Stt.app, List.length_cons, List.length_nil, Nat.zero_add, List.cons_append, List.nil_append]
  repeat (first
    | refine Ev.fin (by simp [] <;> rfl) (by simp []) ?_
    | refine Ev.t (by rfl) ?_
    | refine Ev.f (by rfl) ?_
    | refine Ev.ite (by first | rfl | assumption) ?_
    | refine Ev.to (by simp (disch := omega) [-loadV, -storeV, -Int.natCast_add, loadV_ip] <;> rfl) ?_)
  refine Ev.bind (e_N (by assumption) (by omega) (by omega)) ?_
  rintro _ ⟨v3, a3, k3, _, _, rfl⟩
  try dsimp only
  repeat (first
    | refine Ev.fin (by simp [] <;> rfl) (by simp []) ?_
    | refine Ev.t (by rfl) ?_
    | refine Ev.f (by rfl) ?_
    | refine Ev.ite (by first | rfl | assumption) ?_
    | refine Ev.to (by simp (disch := omega) [-loadV, -storeV, -Int.natCast_add, loadV_ip] <;> rfl) ?_)
  have hp : ∀ (a : Nat) (v : Int), [Ent.obj [.int .i64 0, .int .i64 0, .int .i64 0, .int .i64 0], Ent.obj [i64 v1, i64 v, .int .i64 0, .int .i64 0]] = plE ⟨v1, v, 0, 0⟩ := fun _ _ => rfl
  have sp : ∀ (a : Nat) (v : Int), storeV S.length 1 (.ptr (S.length + 1) 1) (i64 v) (Sr S i L a (plE ⟨v1, v2, 0, 0⟩)) = some (Sr S i L a (plE ⟨v1, v, 0, 0⟩)) := fun a v => pl_put (by omega) rfl
  refine Ev.beq (fun _ => ?_) (fun _ => ?_)
  · skip
    repeat (first
      | refine Ev.fin (by simp [] <;> rfl) (by simp []) ?_
      | refine Ev.t (by rfl) ?_
      | refine Ev.f (by rfl) ?_
      | refine Ev.ite (by first | rfl | assumption) ?_
      | refine Ev.to (by simp (disch := omega) [-loadV, -storeV, -Int.natCast_add, loadV_ip] <;> rfl) ?_)
    refine Ev.bind (e_N (by assumption) (by omega) (by omega)) ?_
    rintro _ ⟨v4, a4, k4, _, _, rfl⟩
    try dsimp only
    repeat (first
      | refine Ev.fin (by simp [] <;> rfl) (by simp []) ?_
      | refine Ev.t (by rfl) ?_
      | refine Ev.f (by rfl) ?_
      | refine Ev.ite (by first | rfl | assumption) ?_
      | refine Ev.to (by simp (disch := omega) [-loadV, -storeV, -Int.natCast_add, loadV_ip] <;> rfl) ?_)
    refine Ev.to (sp a4 (105 * v4)) ?_
    exact g_PlaceJ1 (p := ⟨v1, 105 * v4, 0, 0⟩) k4 b1 b2 (by show 0 ≤ 105 * v4; omega) (by show 105 * v4 ≤ 840; omega)
  · skip
    repeat (first
      | refine Ev.fin (by simp [] <;> rfl) (by simp []) ?_
      | refine Ev.t (by rfl) ?_
      | refine Ev.f (by rfl) ?_
      | refine Ev.ite (by first | rfl | assumption) ?_
      | refine Ev.to (by simp (disch := omega) [-loadV, -storeV, -Int.natCast_add, loadV_ip] <;> rfl) ?_)
    refine Ev.beq (fun _ => ?_) (fun _ => ?_)
    · skip
      repeat (first
        | refine Ev.fin (by simp [] <;> rfl) (by simp []) ?_
        | refine Ev.t (by rfl) ?_
        | refine Ev.f (by rfl) ?_
        | refine Ev.ite (by first | rfl | assumption) ?_
        | refine Ev.to (by simp (disch := omega) [-loadV, -storeV, -Int.natCast_add, loadV_ip] <;> rfl) ?_)
      refine Ev.bind (e_N (by assumption) (by omega) (by omega)) ?_
      rintro _ ⟨v4, a4, k4, _, _, rfl⟩
      try dsimp only
      repeat (first
        | refine Ev.fin (by simp [] <;> rfl) (by simp []) ?_
        | refine Ev.t (by rfl) ?_
        | refine Ev.f (by rfl) ?_
        | refine Ev.ite (by first | rfl | assumption) ?_
        | refine Ev.to (by simp (disch := omega) [-loadV, -storeV, -Int.natCast_add, loadV_ip] <;> rfl) ?_)
      refine Ev.to (sp a4 (210 * v4)) ?_
      exact g_PlaceJ1 (p := ⟨v1, 210 * v4, 0, 0⟩) k4 b1 b2 (by show 0 ≤ 210 * v4; omega) (by show 210 * v4 ≤ 840; omega)
    · exact g_PlaceJ1 (p := ⟨v1, v2, 0, 0⟩) k3 b1 b2 c1 (by show v2 ≤ 840; omega)

end Go.Proofs.YtlilahgndpdkfaaDoor
