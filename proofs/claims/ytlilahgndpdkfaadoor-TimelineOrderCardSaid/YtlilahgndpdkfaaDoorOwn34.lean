/-
  Texts of this claim: TlLawBase.
-/
import Derived.Test.YtlilahgndpdkfaaDoorOwn17
import Derived.Test.YtlilahgndpdkfaaDoorOwn25
import Derived.Test.YtlilahgndpdkfaaDoorOwn32
set_option linter.all false
/-
  What the laws have in common.
-/
namespace Go.Proofs.YtlilahgndpdkfaaDoor
open Go Go.Abs

/-- Few enough to be compared. -/
theorem flagsP_few {l : List Rep} {k : Ctl} (h : Few l) : (flagsP l k).length ≤ 1000000 := by
  unfold flagsP
  split
  · rename_i he
    exact Nat.le_trans (refFlags_length (examP_zero he).1) h.all
  · simp

theorem ser_few {m0 m n : Int} {l : List Rep} (h : SerOk m0 l m) (hn : (l.length : Int) ≤ n) (hn2 : n ≤ 900) : Few l := ⟨by omega, fun r hr => by
  have := (h.rep r hr).2.2.1.len
  omega⟩

theorem ser_good {m0 m : Int} {l : List Rep} (h : SerOk m0 l m) (h0 : 0 ≤ m0) (hm : m ≤ 52595999) : Abs.Good l := by
  refine ⟨fun r hr => (h.rep r hr).2.2.1.valid, fun r hr => ?_, ?_⟩
  · have := h.rep r hr; omega
  · refine List.Pairwise.map _ (fun a b hab he => ?_) h.inc
    have := (Prod.ext_iff.1 he).2
    simp only [keyR] at this
    omega
/-- The reader that the law begins with. -/
theorem law_New (L : List Int) (hL : ∀ n ∈ L, In64 n) : ∃ S1 L', call 11 [.sl (ints L) .none] [] = some (.ptr 0 0, Sr S1 0 L' 0 []) ∧ Sc S1 0 L' 0 ∧ S1.length = 1 := by
  refine ⟨[srcE (L.take 2000) 0], L.take 2000, ?_, ⟨by simp, by omega, by simp; omega, fun n hn => hL n (List.mem_of_mem_take hn)⟩, rfl⟩
  rw [s_New, show Sr [srcE (L.take 2000) 0] 0 (L.take 2000) 0 [] = [srcE (L.take 2000) 0] from Stt.self rfl]; rfl

section
variable {S : Store} {i : Nat} {L : List Int} {a : Nat}

/-- A report put behind the others. -/
theorem row_app {k : Nat} {es : Store} {ys : List Rep} {r : Rep} (h0 : es[k]? = some (.tail ys.length 8)) (hl : ys.length ≤ 1000) :
    appendV 8 (.sl (reps ys) (.own (S.length + k))) (.sl [repR r] .full) (Sr S i L a es) = some (.sl (reps (ys ++ [r])) (.own (S.length + k)), Sr S i L a (es.set k (.tail (ys.length + 1) 8))) := by
  have := Stt.append (S := S) (i := i) (e := srcE L a) (es := es) (k := k) (n := ys.length) (sz := 8) (xs := reps ys) (ys := [repR r]) (t := .full) h0 (by simp) (by simp) (by simp) (by simp [room]; omega)
  rw [this]
  simp [reps]

theorem flag_app {k : Nat} {es : Store} {W : List (Int × Int)} {f : Int × Int} (h0 : es[k]? = some (.tail W.length 3)) (hl : W.length ≤ 1000000) :
    appendV 3 (.sl (flagRows W) (.own (S.length + k))) (.sl [flagR f] .full) (Sr S i L a es) = some (.sl (flagRows (W ++ [f])) (.own (S.length + k)), Sr S i L a (es.set k (.tail (W.length + 1) 3))) := by
  have := Stt.append (S := S) (i := i) (e := srcE L a) (es := es) (k := k) (n := W.length) (sz := 3) (xs := flagRows W) (ys := [flagR f]) (t := .full) h0 (by simp [flagRows]) (by simp [flagR]) (by simp) (by simp [room, flagRows]; omega)
  rw [this]
  simp [flagRows]

end
end Go.Proofs.YtlilahgndpdkfaaDoor
