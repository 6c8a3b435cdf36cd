/-
  Texts of this claim: TlGenB.
-/
import Derived.Test.YtlilahgndpdkfaaDoorOwn17
import Derived.Test.YtlilahgndpdkfaaDoorOwn18
set_option linter.all false
/-
  What the makers of given data answer: reports in which one thing is changed.
-/
namespace Go.Proofs.YtlilahgndpdkfaaDoor
open Go Go.Abs

def repV (r : Rep) (v : AV) : List AV := [i64 r.kind, .str r.name, i64 r.time, i64 r.face, i64 r.pa, i64 r.pb, i64 r.pc, v]

theorem flat_rds : ∀ (n : Nat) (l : List Int), l.length = n * 2 → ∃ rd : List Rd, rd.length = n ∧ (rds rd).flatten = l.map i64
  | 0, l, h => by
    have : l = [] := List.eq_nil_of_length_eq_zero (by omega)
    subst this; exact ⟨[], rfl, rfl⟩
  | n + 1, [], h => by simp at h
  | n + 1, [_], h => by simp at h; omega
  | n + 1, a :: b :: l, h => by
    obtain ⟨rd, h1, h2⟩ := flat_rds n l (by simp at h; omega)
    exact ⟨(a, b) :: rd, by simp [h1], by simp [rds_cons, h2]⟩

theorem rds_flat (l : List Rd) : (rds l).flatten = (l.flatMap fun r => [r.1, r.2]).map i64 := by
  induction l with
  | nil => rfl
  | cons r l ih => simp [rds_cons, ih]

/-- The entries: the report that is changed, the result, the readings. -/
structure BE (S : Store) (es : Store) (r : Rep) (v : AV) : Prop where
  e0 : es[0]? = some (.obj (repV r v))
  e1 : es[1]? = some (.obj [.int .i64 0, .str [], .int .i64 0, .int .i64 0, .int .i64 0, .int .i64 0, .int .i64 0, .sl [] .full])
  rd : (v = .sl [] .full ∧ r.rd = []) ∨ (r.rd ≠ [] ∧ ∃ m, 2 ≤ m ∧ v = .osl (S.length + m) 0 r.rd.length 2 ∧ es[m]? = some (.obj (rds r.rd).flatten))

section
variable {S : Store} {i : Nat} {L : List Int} {es : Store} {r : Rep} {v : AV}

theorem BE.lt (h : BE S es r v) : 2 ≤ es.length := by
  have := (List.getElem?_eq_some_iff.1 h.e1).1
  omega

/-- A field turned. -/
theorem BE.put (h : BE S es r v) {r' : Rep} (hr : r'.rd = r.rd) : BE S (es.set 0 (.obj (repV r' v))) r' v := by
  have := h.lt
  refine ⟨by rw [List.getElem?_set_self (by omega)], by rw [List.getElem?_set_ne (by omega)]; exact h.e1, ?_⟩
  rw [hr]
  rcases h.rd with h1 | ⟨h1, m, h2, h3, h4⟩
  · exact .inl h1
  · exact .inr ⟨h1, m, h2, h3, by rw [List.getElem?_set_ne (by omega)]; exact h4⟩

theorem BE.store (h : BE S es r v) {a k : Nat} {w : AV} {r' : Rep} (hk : k < 8) (hw : cells1 (cellsOf w) = some [w]) (hl : (cellsOf w).length = 1) (hr : r'.rd = r.rd) (he : (repV r v).set k w = repV r' v) :
    storeV S.length 1 (.ptr S.length k) w (Sr S i L a es) = some (Sr S i L a (es.set 0 (.obj (repV r' v)))) := by
  rw [Stt.store0 h.e0 hw hl (by simp [repV]; omega)]
  simp only [setC, he]

theorem take_len {es : Store} {n : Nat} (h : es.length = n) : es.take n = es := by rw [← h, List.take_length]

theorem b_J1 {a : Nat} (h : BE S es r v) : F16_J1 call S.length (.ptr S.length 0) (.ptr (S.length + 1) 0) (Sr S i L a es) = some (.agg (repR r), Sr S i L a []) := by
  unfold F16_J1
  have l1 := Stt.loadA0 (S := S) (i := i) (e := srcE L a) (n := 8) h.e0 (by simp [repV])
  refine bind_of l1 ?_
  have hlt := h.lt
  have hb : belows S.length (repR r) = true := by simp [repR]
  rcases h.rd with ⟨rfl, h2⟩ | ⟨h1, m, h2, rfl, h4⟩
  · have hf : freezeV (.agg (repV r (.sl [] .full))) (Sr S i L a es) = some (.agg (repV r (.sl [] .full)), Sr S i L a es) := by
      simp [freezeV, repV, isOsl, List.findIdx_cons]
    have st := Stt.storeA (S := S) (i := i) (e := srcE L a) (k := 1) (n := 8) (vs := repV r (.sl [] .full)) h.e1 (by simp [repV]) (by simp [repV]) (by simp)
    have l2 := Stt.loadA (S := S) (i := i) (e := srcE L a) (k := 1) (es := es.set 1 (.obj (repV r (.sl [] .full)))) (n := 8) (cs := repV r (.sl [] .full)) (by rw [List.getElem?_set_self (by omega)]) (by simp [repV])
    refine bind_of hf (bind_of st (bind_of (bind_of l2 rfl) ?_))
    have him : imms (repV r (.sl [] .full)) = some (repR r) := by simp [repV, repR, h2]
    rw [Stt.finish (vs' := [.agg (repR r)]) (by simp only [fins, fin1, him, Option.bind_some]) (by simp [hb])]
    rfl
  · have hro : rowsOf (.osl (S.length + m) 0 r.rd.length 2) (Sr S i L a es) = some (rds r.rd) := by
      have := rowsOf_flat (S := Sr S i L a es) (i := S.length + m) (sz := 2) (xs := rds r.rd) (by rw [Stt.own]; exact h4) (fun x hx => (rds_row x hx).1)
      rwa [rds_length] at this
    have hf : freezeV (.agg (repV r (.osl (S.length + m) 0 r.rd.length 2))) (Sr S i L a es) = some (.agg (repR r), Sr S i L a (es.set m .dead)) := by
      have hix : (repV r (.osl (S.length + m) 0 r.rd.length 2)).findIdx isOsl = 7 := by simp [repV, isOsl, List.findIdx_cons]
      simp only [freezeV, hix]
      have : (repV r (.osl (S.length + m) 0 r.rd.length 2))[7]? = some (.osl (S.length + m) 0 r.rd.length 2) := rfl
      simp only [this, hro, Option.bind_some, immRows_self rds_row, Stt.set_own]
      rfl
    have st := Stt.storeA (S := S) (i := i) (e := srcE L a) (es := es.set m .dead) (k := 1) (n := 8) (vs := repR r) (by rw [List.getElem?_set_ne (by omega)]; exact h.e1) (by simp [repR]) (by simp) (by simp)
    have l2 := Stt.loadA (S := S) (i := i) (e := srcE L a) (k := 1) (es := (es.set m .dead).set 1 (.obj (repR r))) (n := 8) (cs := repR r) (by rw [List.getElem?_set_self (by simp; omega)]) (by simp)
    refine bind_of hf (bind_of st (bind_of (bind_of l2 rfl) ?_))
    rw [Stt.finish (vs' := [.agg (repR r)]) (by simp only [fins, fin1, imms_repR, Option.bind_some]) (by simp [hb])]
    rfl

/-- What a change comes to: a report with at most one reading more. -/
def BentP (r : Rep) (v : AV) : Prop := ∃ r' : Rep, v = .agg (repR r') ∧ r'.rd.length ≤ r.rd.length + 1

end

set_option maxHeartbeats 4000000 in
theorem g_Bent (r : Rep) (hr : r.rd.length ≤ 1000000) (i : Nat) : Maker 16 [.ptr i 0, .agg (repR r)] i (BentP r) := by
  intro S L a hs
  have hlt := hs.lt
  unfold Mk
  rw [k16]
  unfold F16
  simp only [Stt.length, List.length_nil, Nat.add_zero]
  refine Ev.to (a := repR r) (by simp [repR]) ?_
  simp only [Stt.app, List.nil_append, List.cons_append, Stt.length, List.length_cons, List.length_nil, Nat.zero_add]
  refine Ev.to (a := .sl [] .full) rfl ?_
  refine Ev.to rfl ?_
  refine Ev.to (a := .sl (rds r.rd) .none) (by rw [Stt.load0 (cs := repR r) rfl]; rfl) ?_
  -- the row of readings
  have hap : ∃ v es, appendMV 2 (.sl [] .full) (.sl (rds r.rd) .none) (Sr S i L a [.obj (repR r), .obj [.int .i64 0, .str [], .int .i64 0, .int .i64 0, .int .i64 0, .int .i64 0, .int .i64 0, .sl [] .full]]) = some (v, Sr S i L a es) ∧
      storeV S.length 1 (.ptr S.length 7) v (Sr S i L a es) = some (Sr S i L a (es.set 0 (.obj (repV r v)))) ∧ BE S (es.set 0 (.obj (repV r v))) r v := by
    have hrow : immRows 2 (rds r.rd) = some (rds r.rd) := immRows_self rds_row
    cases hrd : r.rd with
    | nil =>
      refine ⟨.sl [] .full, _, rfl, ?_, ⟨rfl, rfl, .inl ⟨rfl, hrd⟩⟩⟩
      exact Stt.store0 (o := 7) (n := 1) (v := .sl [] .full) (cs := repR r) (vs := [.sl [] .full]) rfl rfl rfl (by simp)
    | cons x l =>
      rw [← hrd]
      have hne : r.rd ≠ [] := by rw [hrd]; simp
      refine ⟨.osl (S.length + 2) 0 r.rd.length 2, [.obj (repR r), .obj [.int .i64 0, .str [], .int .i64 0, .int .i64 0, .int .i64 0, .int .i64 0, .int .i64 0, .sl [] .full], .obj (rds r.rd).flatten], ?_, ?_, ⟨rfl, rfl, .inr ⟨hne, 2, by omega, rfl, rfl⟩⟩⟩
      · have hem : (rds r.rd).isEmpty = false := by rw [hrd]; rfl
        simp only [appendMV, rowsOf_sl, Option.bind_some, hrow, hem, cond_false, Stt.length, Stt.app, rds_length]
        rw [if_pos (by simp [room]; omega)]
        rfl
      · exact Stt.store0 (o := 7) (n := 1) (v := .osl (S.length + 2) 0 r.rd.length 2) (cs := repR r) (vs := [.osl (S.length + 2) 0 r.rd.length 2]) rfl rfl rfl (by simp)
  obtain ⟨v, es, h1, h2, h3⟩ := hap
  refine Ev.to h1 (Ev.to rfl (Ev.to h2 ?_))
  generalize hes : es.set 0 (.obj (repV r v)) = es1 at *
  repeat (first
    | refine Ev.fin (by simp [] <;> rfl) (by simp []) ?_
    | refine Ev.t (by rfl) ?_
    | refine Ev.f (by rfl) ?_
    | refine Ev.ite (by first | rfl | assumption) ?_
    | refine Ev.to (by simp (disch := omega) [-loadV, -storeV, -Int.natCast_add, loadV_ip] <;> rfl) ?_)
  refine Ev.bind (e_N (by assumption) (by omega) (by omega)) ?_
  rintro _ ⟨v1, a1, k1, _, _, rfl⟩
  try dsimp only
  repeat (first
    | refine Ev.fin (by simp [] <;> rfl) (by simp []) ?_
    | refine Ev.t (by rfl) ?_
    | refine Ev.f (by rfl) ?_
    | refine Ev.ite (by first | rfl | assumption) ?_
    | refine Ev.to (by simp (disch := omega) [-loadV, -storeV, -Int.natCast_add, loadV_ip] <;> rfl) ?_)
  have done : ∀ (a : Nat) (es2 : Store) (r2 : Rep) (v2 : AV), Sc S i L a → BE S es2 r2 v2 → r2.rd.length ≤ r.rd.length + 1 → Ev (F16_J1 call S.length (.ptr S.length 0) (.ptr (S.length + 1) 0) (Sr S i L a es2)) fun q => ∃ v a', Sc S i L a' ∧ BentP r v ∧ q = (v, Sr S i L a' []) :=
    fun a es2 r2 v2 hs hb hl => .of (b_J1 hb) ⟨_, a, hs, ⟨r2, rfl, hl⟩, rfl⟩
  refine Ev.beq (fun _ => ?_) (fun _ => ?_)
  · skip
    repeat (first
      | refine Ev.fin (by simp [] <;> rfl) (by simp []) ?_
      | refine Ev.t (by rfl) ?_
      | refine Ev.f (by rfl) ?_
      | refine Ev.ite (by first | rfl | assumption) ?_
      | refine Ev.to (by simp (disch := omega) [-loadV, -storeV, -Int.natCast_add, loadV_ip] <;> rfl) ?_)
    refine Ev.bind (e_Range (by assumption) (by omega) (by omega) (by omega)) ?_
    rintro _ ⟨v2, a2, k2, _, _, rfl⟩
    try dsimp only
    refine Ev.to rfl (Ev.to (h3.store (w := i64 v2) (r' := { r with kind := v2 }) (by omega) rfl rfl rfl rfl) ?_)
    exact done _ _ { r with kind := v2 } _ k2 (h3.put rfl) (by simp)
  · skip
    repeat (first
      | refine Ev.fin (by simp [] <;> rfl) (by simp []) ?_
      | refine Ev.t (by rfl) ?_
      | refine Ev.f (by rfl) ?_
      | refine Ev.ite (by first | rfl | assumption) ?_
      | refine Ev.to (by simp (disch := omega) [-loadV, -storeV, -Int.natCast_add, loadV_ip] <;> rfl) ?_)
    refine Ev.beq (fun _ => ?_) (fun _ => ?_)
    · skip
      repeat (first
        | refine Ev.fin (by simp [] <;> rfl) (by simp []) ?_
        | refine Ev.t (by rfl) ?_
        | refine Ev.f (by rfl) ?_
        | refine Ev.ite (by first | rfl | assumption) ?_
        | refine Ev.to (by simp (disch := omega) [-loadV, -storeV, -Int.natCast_add, loadV_ip] <;> rfl) ?_)
      refine Ev.bind (e_Text (by assumption) (by simp) (by simp) (by simp)) ?_
      rintro _ ⟨v2, a2, k2, _, rfl⟩
      try dsimp only
      refine Ev.to rfl (Ev.to (h3.store (w := .str v2) (r' := { r with name := v2 }) (by omega) rfl rfl rfl rfl) ?_)
      exact done _ _ { r with name := v2 } _ k2 (h3.put rfl) (by simp)
    · skip
      repeat (first
        | refine Ev.fin (by simp [] <;> rfl) (by simp []) ?_
        | refine Ev.t (by rfl) ?_
        | refine Ev.f (by rfl) ?_
        | refine Ev.ite (by first | rfl | assumption) ?_
        | refine Ev.to (by simp (disch := omega) [-loadV, -storeV, -Int.natCast_add, loadV_ip] <;> rfl) ?_)
      refine Ev.beq (fun _ => ?_) (fun _ => ?_)
      · skip
        repeat (first
          | refine Ev.fin (by simp [] <;> rfl) (by simp []) ?_
          | refine Ev.t (by rfl) ?_
          | refine Ev.f (by rfl) ?_
          | refine Ev.ite (by first | rfl | assumption) ?_
          | refine Ev.to (by simp (disch := omega) [-loadV, -storeV, -Int.natCast_add, loadV_ip] <;> rfl) ?_)
        refine Ev.bind (e_Pick (by assumption) (by simp) (by simp) (by simp)) ?_
        rintro _ ⟨v2, a2, k2, _, rfl⟩
        try dsimp only
        refine Ev.to rfl (Ev.to (h3.store (w := i64 v2) (r' := { r with time := v2 }) (by omega) rfl rfl rfl rfl) ?_)
        exact done _ _ { r with time := v2 } _ k2 (h3.put rfl) (by simp)
      · skip
        repeat (first
          | refine Ev.fin (by simp [] <;> rfl) (by simp []) ?_
          | refine Ev.t (by rfl) ?_
          | refine Ev.f (by rfl) ?_
          | refine Ev.ite (by first | rfl | assumption) ?_
          | refine Ev.to (by simp (disch := omega) [-loadV, -storeV, -Int.natCast_add, loadV_ip] <;> rfl) ?_)
        refine Ev.beq (fun _ => ?_) (fun _ => ?_)
        · skip
          repeat (first
            | refine Ev.fin (by simp [] <;> rfl) (by simp []) ?_
            | refine Ev.t (by rfl) ?_
            | refine Ev.f (by rfl) ?_
            | refine Ev.ite (by first | rfl | assumption) ?_
            | refine Ev.to (by simp (disch := omega) [-loadV, -storeV, -Int.natCast_add, loadV_ip] <;> rfl) ?_)
          refine Ev.bind ((g_Place i).at (by assumption)) ?_
          rintro _ ⟨v2, a2, k2, q2, rfl⟩
          try dsimp only
          obtain ⟨p, _, rfl⟩ := q2
          have st := Stt.store0 (S := S) (i := i) (e := srcE L a2) (o := 3) (n := 4) (v := .agg (plC (normP p))) h3.e0 cells1_plC rfl (by simp [repV])
          refine Ev.to rfl (Ev.to st ?_)
          exact done _ _ { r with face := (normP p).face, pa := (normP p).a, pb := (normP p).b, pc := (normP p).c } v k2 (h3.put (r' := { r with face := (normP p).face, pa := (normP p).a, pb := (normP p).b, pc := (normP p).c }) rfl) (by simp)
        · skip
          repeat (first
            | refine Ev.fin (by simp [] <;> rfl) (by simp []) ?_
            | refine Ev.t (by rfl) ?_
            | refine Ev.f (by rfl) ?_
            | refine Ev.ite (by first | rfl | assumption) ?_
            | refine Ev.to (by simp (disch := omega) [-loadV, -storeV, -Int.natCast_add, loadV_ip] <;> rfl) ?_)
          refine Ev.beq (fun _ => ?_) (fun _ => ?_)
          · skip
            repeat (first
              | refine Ev.fin (by simp [] <;> rfl) (by simp []) ?_
              | refine Ev.t (by rfl) ?_
              | refine Ev.f (by rfl) ?_
              | refine Ev.ite (by first | rfl | assumption) ?_
              | refine Ev.to (by simp (disch := omega) [-loadV, -storeV, -Int.natCast_add, loadV_ip] <;> rfl) ?_)
            refine Ev.bind (e_Range (by assumption) (by omega) (by omega) (by omega)) ?_
            rintro _ ⟨v2, a2, k2, _, _, rfl⟩
            try dsimp only
            repeat (first
              | refine Ev.fin (by simp [] <;> rfl) (by simp []) ?_
              | refine Ev.t (by rfl) ?_
              | refine Ev.f (by rfl) ?_
              | refine Ev.ite (by first | rfl | assumption) ?_
              | refine Ev.to (by simp (disch := omega) [-loadV, -storeV, -Int.natCast_add, loadV_ip] <;> rfl) ?_)
            refine Ev.bind (e_N (by assumption) (by omega) (by omega)) ?_
            rintro _ ⟨v3, a3, k3, _, _, rfl⟩
            try dsimp only
            repeat (first
              | refine Ev.fin (by simp [] <;> rfl) (by simp []) ?_
              | refine Ev.t (by rfl) ?_
              | refine Ev.f (by rfl) ?_
              | refine Ev.ite (by first | rfl | assumption) ?_
              | refine Ev.to (by simp (disch := omega) [-loadV, -storeV, -Int.natCast_add, loadV_ip] <;> rfl) ?_)
            refine Ev.bind (e_N (by assumption) (by omega) (by omega)) ?_
            rintro _ ⟨v4, a4, k4, _, _, rfl⟩
            try dsimp only
            have st := Stt.store0 (S := S) (i := i) (e := srcE L a4) (o := 3) (n := 4) (v := .agg [i64 v2, i64 v3, i64 v4, i64 0]) (vs := [i64 v2, i64 v3, i64 v4, i64 0]) h3.e0 rfl rfl (by simp [repV])
            refine Ev.to (a := .agg [i64 v2, i64 v3, i64 v4, i64 0]) rfl (Ev.to rfl (Ev.to st ?_))
            exact done _ _ { r with face := v2, pa := v3, pb := v4, pc := 0 } v k4 (h3.put (r' := { r with face := v2, pa := v3, pb := v4, pc := 0 }) rfl) (by simp)
          · have hj : S.length ≠ i := by omega
            have ldr : ∀ a, loadV none (.ptr S.length 7) (Sr S i L a es1) = some v := fun a => by rw [Stt.load0 h3.e0]; rfl
            have ldR : ∀ a, loadRV none (.ptr S.length 7) (.ptr S.length 0) (Sr S i L a es1) = some v := fun a => by simp only [loadRV, Nat.beq_refl, cond_true, ldr]
            repeat (first
              | refine Ev.fin (by simp [] <;> rfl) (by simp []) ?_
              | refine Ev.t (by rfl) ?_
              | refine Ev.f (by rfl) ?_
              | refine Ev.ite (by first | rfl | assumption) ?_
              | refine Ev.to (by simp (disch := omega) [-loadV, -storeV, -Int.natCast_add, loadV_ip] <;> rfl) ?_)
            refine Ev.beq (fun _ => ?_) (fun _ => ?_)
            · refine Ev.to rfl (Ev.to (ldR _) (Ev.to rfl ?_))
              refine Ev.bind (e_only hlt (by omega) (e_Range (by assumption) (by omega) (by omega) (by omega)) (by rintro _ ⟨_, _, _, _, _, rfl⟩; exact ⟨_, _, rfl⟩)) ?_
              rintro _ ⟨v2, a2, k2, _, _, rfl⟩
              try dsimp only
              refine Ev.to rfl ?_
              refine Ev.bind (e_only hlt (by omega) (e_N (by assumption) (by omega) (by omega)) (by rintro _ ⟨_, _, _, _, _, rfl⟩; exact ⟨_, _, rfl⟩)) ?_
              rintro _ ⟨v3, a3, k3, _, _, rfl⟩
              try dsimp only
              refine Ev.to (a := .agg [i64 v2, i64 v3]) rfl ?_
              refine Ev.to (a := .sl [[i64 v2, i64 v3]] .full) rfl ?_
              have hap2 : ∃ v' es2, appendMV 2 v (.sl [[i64 v2, i64 v3]] .full) (Sr S i L a3 es1) = some (v', Sr S i L a3 es2) ∧ storeV S.length 1 (.ptr S.length 7) v' (Sr S i L a3 es2) = some (Sr S i L a3 (es2.set 0 (.obj (repV { r with rd := r.rd ++ [(v2, v3)] } v')))) ∧
                  BE S (es2.set 0 (.obj (repV { r with rd := r.rd ++ [(v2, v3)] } v'))) { r with rd := r.rd ++ [(v2, v3)] } v' := by
                have hlt1 := h3.lt
                rcases h3.rd with ⟨hv, hrd⟩ | ⟨hrd, m, hm, hv, hem⟩
                · refine ⟨.osl (S.length + es1.length) 0 1 2, es1 ++ [.obj [i64 v2, i64 v3]], ?_, ?_, ?_⟩
                  · subst hv
                    simp only [appendMV, rowsOf_sl, Option.bind_some, immRows, List.length_cons, List.length_nil, imms, imm1, if_true, Stt.length, Stt.app]
                    rfl
                  · have h0 : (es1 ++ [Ent.obj [i64 v2, i64 v3]])[0]? = some (.obj (repV r v)) := by rw [List.getElem?_append_left (by omega)]; exact h3.e0
                    exact Stt.store0 (o := 7) (n := 1) (v := .osl (S.length + es1.length) 0 1 2) (vs := [.osl (S.length + es1.length) 0 1 2]) h0 rfl rfl (by simp [repV])
                  · have hl2 : (es1 ++ [Ent.obj [i64 v2, i64 v3]]).length = es1.length + 1 := by simp
                    refine ⟨by rw [List.getElem?_set_self (by omega)], by rw [List.getElem?_set_ne (by omega), List.getElem?_append_left (by omega)]; exact h3.e1, .inr ⟨by simp, es1.length, by omega, by simp [hrd], ?_⟩⟩
                    rw [List.getElem?_set_ne (by omega), List.getElem?_append_right (Nat.le_refl _)]
                    simp [hrd, rds]
                · refine ⟨.osl (S.length + es1.length) 0 (r.rd.length + 1) 2, es1.set m .dead ++ [.obj ((rds r.rd).flatten ++ [i64 v2, i64 v3])], ?_, ?_, ?_⟩
                  · subst hv
                    have hfl := flatten_length (xs := rds r.rd) (sz := 2) fun x hx => (rds_row x hx).1
                    rw [rds_length] at hfl
                    have hpos : 0 < r.rd.length := List.length_pos_iff.2 hrd
                    simp only [appendMV, Stt.own, hem, rowsOf_sl, Option.bind_some, immRows, List.length_cons, List.length_nil, imms, imm1, if_true, Stt.length, Stt.app, Stt.set_own]
                    rw [if_pos ⟨trivial, hpos, by omega, by simp [room]; omega⟩, ← hfl, List.take_length]
                    rfl
                  · have h0 : (es1.set m .dead ++ [Ent.obj ((rds r.rd).flatten ++ [i64 v2, i64 v3])])[0]? = some (.obj (repV r v)) := by
                      rw [List.getElem?_append_left (by simp; omega), List.getElem?_set_ne (by omega)]; exact h3.e0
                    exact Stt.store0 (o := 7) (n := 1) (v := .osl (S.length + es1.length) 0 (r.rd.length + 1) 2) (vs := [.osl (S.length + es1.length) 0 (r.rd.length + 1) 2]) h0 rfl rfl (by simp [repV])
                  · have hl2 : (es1.set m .dead ++ [Ent.obj ((rds r.rd).flatten ++ [i64 v2, i64 v3])]).length = es1.length + 1 := by simp
                    have hl3 : (es1.set m Ent.dead).length = es1.length := by simp
                    refine ⟨by rw [List.getElem?_set_self (by omega)], by rw [List.getElem?_set_ne (by omega), List.getElem?_append_left (by omega), List.getElem?_set_ne (by omega)]; exact h3.e1, .inr ⟨by simp, es1.length, by omega, by simp, ?_⟩⟩
                    rw [List.getElem?_set_ne (by omega), List.getElem?_append_right (by omega), hl3, Nat.sub_self]
                    simp [rds]
              obtain ⟨v', es2, j1, j2, j3⟩ := hap2
              refine Ev.to j1 (Ev.to rfl (Ev.to j2 ?_))
              exact done _ _ _ _ k3 j3 (by simp)
            · skip
              repeat (first
                | refine Ev.fin (by simp [] <;> rfl) (by simp []) ?_
                | refine Ev.t (by rfl) ?_
                | refine Ev.f (by rfl) ?_
                | refine Ev.ite (by first | rfl | assumption) ?_
                | refine Ev.to (by simp (disch := omega) [-loadV, -storeV, -Int.natCast_add, loadV_ip] <;> rfl) ?_)
              refine Ev.beq (fun _ => ?_) (fun _ => ?_)
              · refine Ev.to rfl (Ev.to (ldr _) ?_)
                have hlv : lenV v = some (i64 r.rd.length) := by
                  rcases h3.rd with ⟨hv, hrd⟩ | ⟨hrd, m, hm, hv, hem⟩
                  · rw [hv, hrd]; rfl
                  · rw [hv]; rfl
                refine Ev.to hlv (Ev.to rfl ?_)
                refine Ev.dec (fun hpos => ?_) (fun _ => done _ _ r _ k1 h3 (by omega))
                rcases h3.rd with ⟨hv, hrd⟩ | ⟨hrd, m, hm, hv, hem⟩
                · rw [hrd] at hpos; simp at hpos
                refine Ev.to rfl (Ev.to (ldR _) (Ev.to rfl (Ev.to (ldr _) (Ev.to hlv (Ev.to rfl ?_)))))
                refine Ev.bind (e_only hlt (by omega) (e_N (by assumption) (by omega) (by omega)) (by rintro _ ⟨_, _, _, _, _, rfl⟩; exact ⟨_, _, rfl⟩)) ?_
                rintro _ ⟨v2, a2, k2, c1, c2, rfl⟩
                try dsimp only
                refine Ev.to (a := .sl [[i64 (-1001)], [i64 0], [i64 99999]] .full) rfl (Ev.to rfl ?_)
                refine Ev.bind (e_only hlt (by omega) (e_Pick (by assumption) (by simp) (by simp) (by simp)) (by rintro _ ⟨_, _, _, _, rfl⟩; exact ⟨_, _, rfl⟩)) ?_
                rintro _ ⟨v3, a3, k3, _, rfl⟩
                try dsimp only
                have hix : indexAV 2 none v (i64 v2) = some (.ptr (S.length + m) (v2.toNat * 2)) := by
                  rw [hv]
                  simp only [indexAV, i64]
                  rw [if_pos ⟨c1, c2, trivial⟩, Nat.zero_add]
                refine Ev.to hix (Ev.to rfl ?_)
                have hfl := flatten_length (xs := rds r.rd) (sz := 2) fun x hx => (rds_row x hx).1
                rw [rds_length] at hfl
                have st := Stt.store (S := S) (i := i) (e := srcE L a3) (k := m) (o := v2.toNat * 2 + 1) (n := 1) (v := i64 v3) (vs := [i64 v3]) hem rfl rfl (by omega)
                refine Ev.to st ?_
                obtain ⟨rd2, g1, g2⟩ := flat_rds r.rd.length ((r.rd.flatMap fun x => [x.1, x.2]).set (v2.toNat * 2 + 1) v3) (by
                  rw [List.length_set, ← hfl, rds_flat, List.length_map])
                have e1 : setC (rds r.rd).flatten (v2.toNat * 2 + 1) [i64 v3] = (rds rd2).flatten := by
                  rw [g2, rds_flat]
                  simp only [setC, List.map_set]
                rw [e1]
                have hlt1 := h3.lt
                have hm2 := (List.getElem?_eq_some_iff.1 hem).1
                refine done _ _ { r with rd := rd2 } v k3 ⟨by rw [List.getElem?_set_ne (by omega)]; exact h3.e0, by rw [List.getElem?_set_ne (by omega)]; exact h3.e1, .inr ⟨fun e => by rw [show rd2 = [] from e] at g1; exact hrd (List.eq_nil_of_length_eq_zero g1.symm), m, hm, by rw [hv]; simp [g1], by rw [List.getElem?_set_self hm2]⟩⟩ (by simp [g1])
              · refine Ev.to rfl (Ev.to rfl (Ev.to (a := i64 r.pc) (by rw [Stt.load0 h3.e0]; rfl) (Ev.to rfl (Ev.to rfl (Ev.to rfl (Ev.to (h3.store (w := i64 (IntKind.i64.wrap (r.pc + 1))) (r' := { r with pc := IntKind.i64.wrap (r.pc + 1) }) (by omega) rfl rfl rfl rfl) ?_))))))
                exact done _ _ { r with pc := IntKind.i64.wrap (r.pc + 1) } _ k1 (h3.put rfl) (by simp)

end Go.Proofs.YtlilahgndpdkfaaDoor
