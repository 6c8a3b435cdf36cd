/-
  Texts of this claim: AbsCode, AbsFunc, AbsFn.
-/
import Derived.LoopN
import Derived.Test.YtlilahgndpdkfaaDoorOwn26
set_option linter.all false
/-
  Code: regions, branches, blocks, loops.
-/
namespace Go.Abs
open Go Go.RowKit

section
variable {T : Tabs} {an : Ann} {X : Ctx} {G : Gst} {b N : Nat} {e : Env} {S : Store} {a : Act} {w : World} {C : CallEnv}

/-- What a piece of code leaves. -/
structure Post (X : Ctx) (G : Gst) (S : Store) (w : World) (a : Act) (b N : Nat) (wr : List Nat) (e' : Env) (S' : Store) (a' : Act) (w' : World) : Prop where
  ex : ∃ G', Rel X G' b N e' S' a' w' ∧ Ext S.length b G S G' S' ∧ Keep G S w G' S' w'
  fr : ∀ t, t ∉ wr → a'.tmps.getD t undef = a.tmps.getD t undef

theorem Post.refl (hr : Rel X G b N e S a w) {wr : List Nat} : Post X G S w a b N wr e S a w := ⟨⟨G, hr, Ext.refl G S, Keep.refl G S w⟩, fun _ _ => rfl⟩

theorem Post.mono {wr wr' : List Nat} {e' : Env} {S' : Store} {a' : Act} {w' : World} (h : Post X G S w a b N wr e' S' a' w') (hw : ∀ t ∈ wr, t ∈ wr') : Post X G S w a b N wr' e' S' a' w' :=
  ⟨h.ex, fun t ht => h.fr t fun h2 => ht (hw t h2)⟩

/-- The code's end. -/
def exOf : Ex → Exit
  | .normal => .normal
  | .exit i => .exit i
  | .ret => .ret

theorem Rel.reg (hr : Rel X G b N e S a w) {wr : List Nat} {w1 : World} (hw : Rel X G b N e S a w1) (hK : Keep G S w G S w1) : Reg X G S w e a b N wr e S (fun _ => none) a w1 :=
  ⟨⟨G, hw, Ext.refl G S, hK, ⟨fun t n h => by (cases h), fun t s n m h => by (cases h)⟩⟩, hr.sat.below.size, fun _ _ => ⟨rfl, rfl⟩⟩

theorem Reg.post {wr : List Nat} {G0 : Gst} {S0 : Store} {w0 : World} {e0 : Env} {a0 : Act} {pd : Nat → Option Nat} (h : Reg X G0 S0 w0 e0 a0 b N wr e S pd a w) : Post X G0 S0 w0 a0 b N wr e S a w := by
  obtain ⟨G, h1, h2, h3, _⟩ := h.ex
  exact ⟨⟨G, h1, h2, h3⟩, fun t ht => (h.fr t ht).1⟩

theorem Rel.drew (hr : Rel X G b N e S a w) : Rel X G b N e S a w.drew := ⟨hr.sat.drew hr.hb, hr.hb, hr.size, hr.defers, hr.env, hr.bel⟩

theorem keep_drew : Keep G S w G S w.drew := ⟨Nat.le_refl _, fun _ _ _ => rfl, fun i _ h => .inl ⟨i, h⟩, fun _ _ _ _ => rfl⟩

theorem region_ok (B : Base T X C) (hm : T.P.follows .mixedOrders = true) {id : Nat} {ops : Array Oper} {draw : Bool} {l : List SOper} {e' : Env} {S' : Store} (hl : regionC T an ops draw = some l) (hr : Rel X G b N e S a w) (hN : ∀ t ∈ writesL l, t < N)
    (h : runOps C b l (fun e S => some (e, S)) e S = some (e', S')) : (Code.region id ops draw).wp T.P (fun ε a' w' => ε = .normal ∧ Post X G S w a b N (writesL l) e' S' a' w') a w := by
  unfold regionC at hl
  simp only at hl
  obtain ⟨hc, hl⟩ := bif_some hl
  cases hl
  simp only [Bool.and_eq_true] at hc
  obtain ⟨hd, hp⟩ := hc
  obtain ⟨pd', hrun⟩ := runOps_runS h hp
  have hwr : ∀ o ∈ ops.toList, ∀ t ∈ (operC T an ops o).outs, t < N ∧ t ∈ writesL (ops.toList.map (operC T an ops)) := by
    intro o ho t ht
    have hmem : t ∈ writesL (ops.toList.map (operC T an ops)) := by
      simp only [writesL, List.mem_flatMap]
      exact ⟨_, List.mem_map.2 ⟨o, ho, rfl⟩, ht⟩
    exact ⟨hN t hmem, hmem⟩
  have hQ : ∀ a' w', RegS X G S w e a b N (writesL (ops.toList.map (operC T an ops))) (e', S', pd') a' w' → (fun (ε : Exit) a' w' => ε = .normal ∧ Post X G S w a b N (writesL (ops.toList.map (operC T an ops))) e' S' a' w') .normal a' w' := fun a' w' h => ⟨rfl, h.post⟩
  cases draw with
  | false =>
    refine wp_region (reg_run (an := an) (r := (e', S', pd')) B hwr hQ (List.range ops.size) (s := (e, S, fun _ => none)) (fun i hi => List.mem_range.1 hi) (by rw [sopsI_range]; exact hrun) (hr.reg hr (Keep.refl G S w)))
  | true =>
    simp only [Bool.not_true, Bool.false_or] at hd
    have hall : remI ops.size (Array.replicate ops.size false) = List.range ops.size := by
      unfold remI
      rw [List.filter_eq_self]
      intro i hi
      have := List.mem_range.1 hi
      simp [Array.getD_eq_getD_getElem?, this]
    refine wp_region_any hm (reg_any (an := an) (r := (e', S', pd')) (s := (e, S, fun _ => none)) B hwr (drawB_ok (by simp) hd) hQ ops.size (by simp) (by rw [hall]; simp) ?_ (by rw [hall, sopsI_range]; exact hrun) (hr.reg hr.drew keep_drew))
    intro j o ho hlj
    have := (Array.getElem?_eq_some_iff.1 ho).1
    simp [Array.getD_eq_getD_getElem?, this] at hlj

theorem Post.trans {G1 : Gst} {S1 S2 : Store} {w1 w2 : World} {a1 a2 : Act} {e2 : Env} {wr wr' : List Nat} (hE : Ext S.length b G S G1 S1) (hK : Keep G S w G1 S1 w1) (hf : ∀ t, t ∉ wr → a1.tmps.getD t undef = a.tmps.getD t undef) (h : Post X G1 S1 w1 a1 b N wr' e2 S2 a2 w2) : Post X G S w a b N (wr ++ wr') e2 S2 a2 w2 := by
  obtain ⟨⟨G2, r2, h2, k2⟩, f2⟩ := h
  refine ⟨⟨G2, r2, hE.trans h2 hE.len, hK.trans k2⟩, fun t ht => ?_⟩
  simp only [List.mem_append, not_or] at ht
  rw [f2 t ht.2, hf t ht.1]

/-- The store cut back. -/
theorem Ext.trim {m n : Nat} {G' : Gst} {S' : Store} (h : Ext m b G S G' S') (hm : m ≤ n) (hn : n ≤ S'.length) : Ext m b G S G' (S'.take n) := by
  refine ⟨h.m, h.β, fun i hi k sz hk => ?_, by simp; omega, h.ζ, fun i hi e' he => ?_⟩
  · rw [List.getElem?_take_of_lt (by omega)] at hk
    exact h.tail i hi k sz hk
  · rw [List.getElem?_take] at he
    split at he
    · exact h.bel i hi e' he
    · cases he

theorem acts_trim {n i c : Nat} (h : Acts G (S.take n) i c) : Acts G S i c ∧ i < n := by
  have hi := acts_lt h
  rw [List.length_take] at hi
  unfold Acts at *
  rw [List.getElem?_take_of_lt (by omega)] at h
  exact ⟨h, by omega⟩

theorem Keep.trim {n : Nat} {G' : Gst} {S' : Store} {w' : World} (h : Keep G S w G' S' w') : Keep G S w G' (S'.take n) w' :=
  ⟨h.size, h.blk, fun i k ha => h.act i k (acts_trim ha).1, h.mem⟩

theorem Sat.trim (h : Sat X G b S w) {n : Nat} (hn : n ≤ S.length) (hb : b ≤ n) (hent : ∀ i e, b ≤ i → i < n → S[i]? = some e → entBelow n e = true) : Sat X G b (S.take n) w := by
  have hE : Ext n b G S G (S.take n) := (Ext.refl G S).weak hn |>.trim (Nat.le_refl _) hn
  have hlow : ∀ i e, i < n → S[i]? = some e → entBelow n e = true := by
    intro i e hi he
    by_cases hib : i < b
    · have := h.bel i e he
      rw [if_pos hib] at this
      exact entBelow_mono hb this
    · exact hent i e (by omega) hi he
  refine ⟨h.below, h.m0, h.im, fun i e he => ?_, fun i j c hi hj => h.dis i j c (acts_trim hi).1 (acts_trim hj).1, fun i c ha => h.base i c (acts_trim ha).1, fun i e he => ?_⟩
  · rw [List.getElem?_take] at he
    split at he
    · rename_i hi
      exact (h.ent i e he).keep he hE (hlow i e hi he) rfl rfl rfl (fun _ _ => rfl) (fun _ _ _ hm => hm)
    · cases he
  · rw [List.getElem?_take] at he
    split at he
    · rename_i hi
      split
      · rename_i hib
        have := h.bel i e he
        rwa [if_pos hib] at this
      · have : (S.take n).length = n := by simp; omega
        rw [this]; exact hlow i e hi he
    · cases he

theorem entsBelow_get {n : Nat} {l : List Ent} (h : entsBelow n l = true) {j : Nat} {x : Ent} (hj : l[j]? = some x) : entBelow n x = true := by
  induction l generalizing j with
  | nil => simp at hj
  | cons y l ih =>
    simp only [entsBelow, Bool.and_eq_true] at h
    cases j with
    | zero => simp only [List.getElem?_cons_zero, Option.some.injEq] at hj; subst hj; exact h.1
    | succ j => exact ih h.2 (by simpa using hj)

theorem envOf_at : ∀ (ks pre : List Nat) (e base : Env) (t : Nat), envOf ks (e.gets (pre ++ ks)) pre.length base t = if t ∈ ks then e t else base t
  | [], pre, e, base, t => by simp [envOf]
  | k :: ks, pre, e, base, t => by
    simp only [envOf]
    cases hk : Nat.beq k t with
    | true =>
      have := Nat.eq_of_beq_eq_true hk
      subst this
      have hg : (e.gets (pre ++ k :: ks)).getD pre.length .u = e k := by
        simp [Env.gets, Env.get, List.getD_eq_getElem?_getD]
      simp only [cond_true, hg, List.mem_cons, true_or, if_true]
    | false =>
      have hne : t ≠ k := fun h => by subst h; simp [Nat.beq_refl] at hk
      have := envOf_at ks (pre ++ [k]) e base t
      simp only [List.append_assoc, List.singleton_append, List.length_append, List.length_singleton] at this
      simp only [cond_false]
      rw [this]
      simp [hne]

theorem envOf_gets (ks : List Nat) (e base : Env) (t : Nat) : envOf ks (e.gets ks) 0 base t = if t ∈ ks then e t else base t := by
  simpa using envOf_at ks [] e base t

theorem memN_iff {t : Nat} {l : List Nat} : memN t l = true ↔ t ∈ l := by
  induction l with
  | nil => simp [memN]
  | cons k l ih =>
    simp only [memN, List.mem_cons]
    cases hk : Nat.beq k t with
    | true => have := Nat.eq_of_beq_eq_true hk; subst this; simp
    | false =>
      have hne : t ≠ k := fun h => by subst h; simp [Nat.beq_refl] at hk
      simp [hne, ih]

theorem only_eq (l : List Nat) (t : Nat) : (e.only l) t = if t ∈ l then e t else .u := by
  unfold Env.only
  cases h : memN t l with
  | true => simp [memN_iff.1 h]
  | false =>
    have : t ∉ l := fun h2 => by rw [memN_iff.2 h2] at h; cases h
    simp [this]


theorem nextS_cases {n : Nat} {vs : List AV} {S' : Store} {r : List AV × Store} (h : nextS b n vs S' = some r) : r = (vs, S') ∨ (r = (vs, S'.take n) ∧ belows n vs = true ∧ entsBelow n ((S'.take n).drop b) = true) := by
  unfold nextS at h
  split at h
  · rename_i hc
    simp only [Bool.and_eq_true] at hc
    cases h; exact .inr ⟨rfl, hc.1, hc.2⟩
  · cases h; exact .inl rfl

/-- What holds behind a piece of code: an end to which the reading comes too, and what it leaves. -/
def CodeQ (X : Ctx) (G : Gst) (S : Store) (w : World) (a : Act) (b N : Nat) (wr : List Nat) {ρ : Type} (K : Ex → Env → Store → Option ρ) (r : ρ) (ε : Exit) (a' : Act) (w' : World) : Prop :=
  ∃ x e' S', ε = exOf x ∧ K x e' S' = some r ∧ Post X G S w a b N wr e' S' a' w'

theorem CodeQ.mono {wr wr' : List Nat} {ρ : Type} {K : Ex → Env → Store → Option ρ} {r : ρ} {ε : Exit} {a' : Act} {w' : World} (h : CodeQ X G S w a b N wr K r ε a' w') (hw : ∀ t ∈ wr, t ∈ wr') : CodeQ X G S w a b N wr' K r ε a' w' := by
  obtain ⟨x, e', S', h1, h2, h3⟩ := h
  exact ⟨x, e', S', h1, h2, h3.mono hw⟩

/-- A round's environment laid anew. -/
theorem Rel.round {G2 : Gst} {S2 : Store} {a2 : Act} {w2 : World} {e2 : Env} {live inv wr : List Nat} (hr : Rel X G b N e S a w) (r2 : Rel X G2 b N e2 S2 a2 w2) (hE : Ext S.length b G S G2 S2) (hf : ∀ t, t ∉ wr → a2.tmps.getD t undef = a.tmps.getD t undef)
    (hd : disj inv wr = true) : Rel X G2 b N (envOf live (e2.gets live) 0 (e.only inv)) S2 a2 w2 := by
  refine ⟨r2.sat, r2.hb, r2.size, r2.defers, fun t => ?_, fun t => ?_⟩
  · rw [envOf_gets, only_eq]
    split
    · exact r2.env t
    · split
      · rename_i hp; rw [hf t (disj_of hd hp)]; exact (hr.env t).mono hE (hr.bel t)
      · exact .u _
  · rw [envOf_gets, only_eq]
    split
    · exact r2.bel t
    · split
      · exact below_mono hE.len _ (hr.bel t)
      · simp [below_tup_eq, belows]

theorem walkHead_inv {ops : Array Oper} {it tup ok : Nat} (h : walkHead ops = some (it, tup, ok)) :
    ∃ o1 o2 : Oper, ops = #[o1, o2] ∧ (o1.dst = some tup ∧ o1.op = .next (.tmp it) false ∧ o1.guard = none) ∧ (o2.dst = some ok ∧ o2.op = .extract (.tmp tup) 0 ∧ o2.guard = none) ∧ tup ≠ it ∧ ok ≠ it ∧ ok ≠ tup := by
  unfold walkHead at h
  split at h
  · rename_i t it' ty1 p1 a1 ok' t' ty2 p2 a2 hl
    obtain ⟨hc, h⟩ := bif_some h
    cases h
    simp only [Bool.and_eq_true, Bool.not_eq_true'] at hc
    obtain ⟨⟨⟨h1, h2⟩, h3⟩, h4⟩ := hc
    have h1 := Nat.eq_of_beq_eq_true h1
    subst h1
    have ne : ∀ {x y : Nat}, Nat.beq x y = false → x ≠ y := fun h e => by subst e; simp [Nat.beq_refl] at h
    exact ⟨_, _, by apply Array.ext'; simpa using hl, ⟨rfl, rfl, rfl⟩, ⟨rfl, rfl, rfl⟩, ne h2, ne h3, ne h4⟩
  · cases h

/-- The head of a walk's round. -/
theorem walk_region (hr : Rel X G b N e S a w) {id it tup ok : Nat} {ops : Array Oper} {p : AV} {l : List (AV × AV × Store)} (ho : walkHead ops = some (it, tup, ok)) (hp : V2 G S (a.tmps.getD it undef) p) (h : stepI p S = some l) (h1N : tup < N) (h2N : ok < N) :
    (Code.region id ops false).wp T.P (fun ε a' w' => ε = .normal ∧ (∀ t, t ≠ tup → t ≠ ok → a'.tmps.getD t undef = a.tmps.getD t undef) ∧
      ((l = [] ∧ ∃ G', Rel X G' b N ((e.put (some tup) (.tup [.bool false])).put (some ok) (.bool false)) (killI p S) a' w' ∧ Ext S.length b G S G' (killI p S) ∧ Keep G S w G' (killI p S) w') ∨
      ∃ c ∈ l, ∃ G', Rel X G' b N ((e.put (some tup) (.tup [.bool true, c.1, c.2.1])).put (some ok) (.bool true)) c.2.2 a' w' ∧ Ext S.length b G S G' c.2.2 ∧ Keep G S w G' c.2.2 w')) a w := by
  obtain ⟨o1, o2, rfl, ⟨d1, p1, g1⟩, ⟨d2, p2, g2⟩, n1, n2, n3⟩ := walkHead_inv ho
  refine wp_region ?_
  show wpOps T.P #[o1, o2] _ [0, 1] a w
  have w1 : ∀ a : Act, Region.wanted o1 (yielded #[o1, o2] a.tmps) = true := fun _ => by simp [Region.wanted, g1]
  have w2 : ∀ a : Act, Region.wanted o2 (yielded #[o1, o2] a.tmps) = true := fun _ => by simp [Region.wanted, g2]
  have e1 : (#[o1, o2] : Array Oper)[0]? = some o1 := rfl
  have e2 : (#[o1, o2] : Array Oper)[1]? = some o2 := rfl
  simp only [wpOps, e1, e2, w1, w2, if_true]
  left
  -- what the step comes to, then the extract
  have second : ∀ {x : AV} {c : Bool} {rest : List AV} {S' : Store} {v : Value} {w' : World}, x = .tup (.bool c :: rest) → OpOK X G b S w x S' v w' →
      ∃ G', ∀ {Q : Act → World → Prop} {Q2 : Exit → Act → World → Prop}, (∀ a', (∀ t, t ≠ tup → t ≠ ok → a'.tmps.getD t undef = a.tmps.getD t undef) → Rel X G' b N ((e.put (some tup) x).put (some ok) (.bool c)) S' a' w' → Ext S.length b G S G' S' → Keep G S w G' S' w' → Q a' w') → o2.wp T.P (a.put o1.dst v) w' Q Q2 := by
    rintro x c rest S' v w' rfl ⟨G', hE, hK, hs, hv, hx⟩
    refine ⟨G', fun {Q Q2} hQ => ?_⟩
    have hr1 : Rel X G' b N (e.put (some tup) (.tup (.bool c :: rest))) S' (a.put o1.dst v) w' := by
      rw [d1]; exact hr.put (fun t ht => by cases ht; exact h1N) hE hs hv hx
    have hval : (a.put o1.dst v).eval (.tmp tup) = (a.put o1.dst v).tmps.getD tup undef := rfl
    have hvt : V2 G' S' ((a.put o1.dst v).eval (.tmp tup)) (.tup (.bool c :: rest)) := by
      have := hr1.env tup
      rw [env_put] at this
      simpa [hval, isDst, Nat.beq_refl] using this
    have hbt : below S'.length (.tup (.bool c :: rest)) = true := hx
    obtain ⟨z, hz1, hz2⟩ := op_extract (P := T.P) (w := w') (i := 0) hvt (show extractV (.tup (.bool c :: rest)) 0 = some (.bool c) from rfl)
    have hzb := hz2.bool_inv
    subst hzb
    have hrun : (execOp (a.put o1.dst v).eval o2).run T.P w' = .ok (.value (.bool c)) w' := by simp [execOp, p2, hz1]
    unfold Oper.wp
    rw [hrun, Oper.upon_value]
    refine hQ _ (fun t ht1 ht2 => ?_) ?_ hE hK
    · rw [put_getD hr1.size (fun t ht => by rw [d2] at ht; cases ht; exact h2N), put_getD hr.size (fun t ht => by rw [d1] at ht; cases ht; exact h1N), d1, d2]
      have q1 : isDst (some ok) t = false := by simp only [isDst]; rw [Bool.eq_false_iff]; intro h; exact ht2 (Nat.eq_of_beq_eq_true h).symm
      have q2 : isDst (some tup) t = false := by simp only [isDst]; rw [Bool.eq_false_iff]; intro h; exact ht1 (Nat.eq_of_beq_eq_true h).symm
      simp [q1, q2]
    · rw [d2]
      have hr2 := hr1.put (d := some ok) (x := .bool c) (v := .bool c) (fun t ht => by cases ht; exact h2N) (Ext.refl G' S') hr1.sat (.one (.v0 (.bool c))) (by simp [below])
      exact hr2
  rcases walk_step (T := T) (ty := o1.type) hr.sat hr.hb hp h with ⟨hl, hrun⟩ | ⟨c, hc, v, w', hrun, hok⟩
  · have hex : (execOp a.eval o1).run T.P w = .ok (.value (.tuple #[.bool false])) w := by
      have : a.eval (.tmp it) = a.tmps.getD it undef := rfl
      simp only [execOp, p1, Sem.run_bind, this, hrun, Result.andThen_ok, Sem.run_pure]
    unfold Oper.wp
    rw [hex, Oper.upon_value]
    left
    have hok : OpOK X G b S w (.tup [.bool false]) (killI p S) (.tuple #[.bool false]) w := by
      unfold stepI at h
      split at h <;> try cases h
      split at h <;> try cases h
      rename_i i _ _ _ _ he
      obtain ⟨q1, q2, q3⟩ := hr.sat.kill hr.hb he
      exact ⟨G, q1, q2, q3, .tup _ _ rfl fun j hj => (by
        match j, hj with
        | 0, _ => exact .one (.v0 (.bool _))), by simp [below_tup_eq, belows, below]⟩
    obtain ⟨G', hQ⟩ := second (x := .tup [.bool false]) (c := false) (rest := []) (v := .tuple #[.bool false]) (w' := w) (S' := killI p S) rfl hok
    exact hQ fun a' hf hr' hE hK => ⟨trivial, hf, .inl ⟨hl, G', hr', hE, hK⟩⟩
  · have hex : (execOp a.eval o1).run T.P w = .ok (.value v) w' := by
      have : a.eval (.tmp it) = a.tmps.getD it undef := rfl
      simp only [execOp, p1, Sem.run_bind, this, hrun, Result.andThen_ok, Sem.run_pure]
    unfold Oper.wp
    rw [hex, Oper.upon_value]
    left
    obtain ⟨G', hQ⟩ := second (c := true) (rest := [c.1, c.2.1]) rfl hok
    exact hQ fun a' hf hr' hE hK => ⟨trivial, hf, .inr ⟨c, hc, G', hr', hE, hK⟩⟩

/-- ████ Code. -/
theorem code_ok (B : Base T X C) (hm : T.P.follows .mixedOrders = true) : ∀ (n : Nat) (c : Code), SizeOf.sizeOf c < n → ∀ {ls ls' : List LoopAnn} {sc : SCode}, codeC T an c ls = some (sc, ls') → (∀ t ∈ sc.writes, t < N) → ∀ {G : Gst} {e : Env} {S : Store} {a : Act} {w : World} {ρ : Type} {K : Ex → Env → Store → Option ρ} {r : ρ},
    Rel X G b N e S a w → den C b sc K e S = some r → c.wp T.P (CodeQ X G S w a b N sc.writes K r) a w := by
  intro n
  induction n with
  | zero => intro c hn; omega
  | succ n ih =>
  intro c hn
  -- the loop's common part
  have loop : ∀ (c1 : Code), SizeOf.sizeOf c1 < n → ∀ {l : LoopAnn} {ls ls' : List LoopAnn} {x1 : SCode × List LoopAnn}, codeC T an c1 ls = some x1 → disj l.inv x1.1.writes = true → disj l.pass x1.1.writes = true → (∀ t ∈ x1.1.writes, t < N) →
      ∀ {G : Gst} {e : Env} {S : Store} {a : Act} {w : World} {ρ : Type} {K : Ex → Env → Store → Option ρ} {r : ρ}, Rel X G b N e S a w → den C b (.loop l.live l.inv l.outs l.pass x1.1) K e S = some r → (Code.loop c1).wp T.P (CodeQ X G S w a b N x1.1.writes K r) a w := by
    intro c1 hc1 l ls ls' x1 h1 dinv dpass hN G e S a w ρ K r0 hr hd
    rw [den_loop] at hd
    simp only [Option.bind_eq_some_iff] at hd
    obtain ⟨r, hit, hk⟩ := hd
    obtain ⟨k, hkn⟩ := iter_some hit
    refine wp_loop_rounds k ?_
    have hlen0 := hr.hb
    have key : ∀ (k : Nat) (s : List AV × Store) (G1 : Gst) (a1 : Act) (w1 : World), iterN (σ := List AV × Store) (τ := Ex × List AV × Store) (fun s =>
      den C b x1.1 (exK (fun e' S' => (nextS b s.2.length (e'.gets l.live) S').bind fun r => some (.inl r))
          (fun i e' S' => some (.inr (.exit i, e'.gets l.outs, S')))
          (fun e' S' => some (.inr (.ret, e'.gets l.outs, S'))))
      (envOf l.live s.1 0 (e.only l.inv)) s.2) k s = some r → Rel X G1 b N (envOf l.live s.1 0 (e.only l.inv)) s.2 a1 w1 → Ext S.length b G S G1 s.2 → Keep G S w G1 s.2 w1 →
        (∀ t, t ∉ x1.1.writes → a1.tmps.getD t undef = a.tmps.getD t undef) → Code.rounds T.P c1 (CodeQ X G S w a b N x1.1.writes K r0) k a1 w1 := by
      intro k
      induction k with
      | zero => intro s G1 a1 w1 h; simp [iterN] at h
      | succ k ihk =>
        intro s G1 a1 w1 h r1 E1 K1 f1
        simp only [iterN] at h
        obtain ⟨z, hz, hzk⟩ := bind_some_of h
        rw [rounds_succ]
        refine wp_mono (ih c1 hc1 h1 hN r1 hz) fun ε a2 w2 ⟨y, e2, S2, h3, hK2, h4⟩ => ?_
        subst h3
        obtain ⟨⟨G2, r2, E2, K2⟩, f2⟩ := h4
        have E02 := E1.trans E2 E1.len
        have K02 := K1.trans K2
        have f02 : ∀ t, t ∉ x1.1.writes → a2.tmps.getD t undef = a.tmps.getD t undef := fun t ht => by rw [f2 t ht, f1 t ht]
        have still : ∀ {G' : Gst} {S'' : Store}, Ext S.length b G S G' S'' → ∀ t, t ∉ x1.1.writes → V2 G' S'' (a2.tmps.getD t undef) (e t) := fun hE t ht => by
          rw [f02 t ht]; exact (hr.env t).mono hE (hr.bel t)
        have fin : ∀ (x' : Ex), x' ≠ .normal → r = (x', e2.gets l.outs, S2) → CodeQ X G S w a b N x1.1.writes K r0 (exOf x') a2 w2 := by
          intro x' hx' hrr
          subst hrr
          have hke : K x' (envOf l.outs (e2.gets l.outs) 0 (e.only l.pass)) S2 = some r0 := by
            cases x' with
            | normal => exact absurd rfl hx'
            | exit i => simpa using hk
            | ret => simpa using hk
          exact ⟨x', _, _, rfl, hke, ⟨G2, hr.round r2 E02 f02 dpass, E02, K02⟩, f02⟩
        cases y with
        | normal =>
          simp only [exK_normal] at hK2
          obtain ⟨q, hq, hq2⟩ := bind_some_of hK2
          cases hq2
          simp only at hzk
          rcases nextS_cases hq with rfl | ⟨rfl, hb1, hb2⟩
          · exact ihk _ G2 a2 w2 hzk (hr.round r2 E02 f02 dinv) E02 K02 f02
          · have hn : s.2.length ≤ S2.length := E2.len
            have hSn : S.length ≤ s.2.length := E1.len
            have hbn : b ≤ s.2.length := by omega
            have E3 : Ext S.length b G S G2 (S2.take s.2.length) := E02.trim hSn hn
            have Et : Ext s.2.length b G2 S2 G2 (S2.take s.2.length) := ((Ext.refl G2 S2).weak hn).trim (Nat.le_refl _) hn
            have hlt : (S2.take s.2.length).length = s.2.length := by simp; omega
            have hlive : ∀ t ∈ l.live, below s.2.length (e2 t) = true := by
              intro t ht
              have hm : e2 t ∈ e2.gets l.live := List.mem_map.2 ⟨t, ht, rfl⟩
              obtain ⟨j, hj, hje⟩ := List.getElem_of_mem hm
              rw [← hje]; exact below_all_get hb1 hj
            refine ihk _ G2 a2 w2 hzk ⟨r2.sat.trim hn hbn (fun i en hbi hin he => ?_), by rw [hlt]; exact hbn, r2.size, r2.defers, fun t => ?_, fun t => ?_⟩ E3 K02.trim f02
            · refine entsBelow_get hb2 (j := i - b) ?_
              rw [List.getElem?_drop, show b + (i - b) = i by omega, List.getElem?_take_of_lt hin]; exact he
            · rw [envOf_gets, only_eq]
              split
              · rename_i ht; exact (r2.env t).mono Et (hlive t ht)
              · split
                · rename_i hp; exact still E3 t (disj_of dinv hp)
                · exact .u _
            · rw [hlt, envOf_gets, only_eq]
              split
              · rename_i ht; exact hlive t ht
              · split
                · exact below_mono hSn _ (hr.bel t)
                · simp [below_tup_eq, belows]
        | exit i =>
          simp only [exK_exit, Option.some.injEq] at hK2
          subst hK2
          simp only [Option.some.injEq] at hzk
          exact fin (.exit i) (by simp) hzk.symm
        | ret =>
          simp only [exK_ret, Option.some.injEq] at hK2
          subst hK2
          simp only [Option.some.injEq] at hzk
          exact fin .ret (by simp) hzk.symm
    refine key k (e.gets l.live, S) G a w hkn ⟨hr.sat, hr.hb, hr.size, hr.defers, fun t => ?_, fun t => ?_⟩ (Ext.refl G S) (Keep.refl G S w) (fun _ _ => rfl)
    · rw [envOf_gets, only_eq]
      split
      · exact hr.env t
      · split
        · exact hr.env t
        · exact .u _
    · rw [envOf_gets, only_eq]
      split
      · exact hr.bel t
      · split
        · exact hr.bel t
        · simp [below_tup_eq, belows]
  intro ls ls' sc hc hN G e S a w ρ K r hr hd
  cases c with
  | skip =>
    simp only [codeC, Option.some.injEq, Prod.mk.injEq] at hc
    obtain ⟨rfl, rfl⟩ := hc
    rw [den_skip] at hd
    exact wp_skip ⟨.normal, _, _, rfl, hd, Post.refl hr⟩
  | region id ops draw =>
    simp only [codeC, Option.bind_eq_some_iff] at hc
    obtain ⟨l, hl, hc⟩ := hc
    cases hc
    rw [den_ops] at hd
    obtain ⟨e1, S1, h1, h2, _⟩ := runOps_fact (A := fun _ => C) (fun f args S r hr => ⟨0, fun _ _ => hr⟩) b l e S _ _ hd
    exact wp_mono (region_ok B hm hl hr hN (h2 _)) fun ε a' w' ⟨h3, h4⟩ => ⟨.normal, e1, S1, h3, h1, h4⟩
  | seq c1 c2 =>
    simp only [codeC, Option.bind_eq_some_iff] at hc
    obtain ⟨x1, h1, x2, h2, hc⟩ := hc
    cases hc
    rw [den_seq] at hd
    have hs1 : SizeOf.sizeOf c1 < n := by simp at hn; omega
    have hs2 : SizeOf.sizeOf c2 < n := by simp at hn; omega
    refine wp_seq (wp_mono (ih c1 hs1 h1 (fun t ht => hN t (by simp [SCode.writes, ht])) hr hd) fun ε a1 w1 ⟨y, e1, S1, h3, hk, h4⟩ => ?_)
    subst h3
    cases y with
    | normal =>
      obtain ⟨⟨G1, r1, E1, K1⟩, f1⟩ := h4
      refine wp_mono (ih c2 hs2 h2 (fun t ht => hN t (by simp [SCode.writes, ht])) r1 hk) fun ε a2 w2 ⟨y, e2, S2, h5, h6, h7⟩ => ⟨y, e2, S2, h5, h6, ?_⟩
      exact Post.trans E1 K1 f1 h7
    | exit i => exact ⟨.exit i, e1, S1, rfl, hk, h4.mono fun t ht => by simp [SCode.writes, ht]⟩
    | ret => exact ⟨.ret, e1, S1, rfl, hk, h4.mono fun t ht => by simp [SCode.writes, ht]⟩
  | cond oc c1 c2 =>
    simp only [codeC, Option.bind_eq_some_iff] at hc
    obtain ⟨oc, h0, x1, h1, x2, h2, hc⟩ := hc
    cases hc
    rw [den_cond] at hd
    have hs1 : SizeOf.sizeOf c1 < n := by simp at hn; omega
    have hs2 : SizeOf.sizeOf c2 < n := by simp at hn; omega
    obtain ⟨o1, _⟩ := opd_ok B.glob hr h0
    cases hv : oc.ev e <;> rw [hv] at hd <;> simp only [condK, reduceCtorEq] at hd
    rename_i t
    rw [hv] at o1
    refine wp_cond o1.bool_inv ?_
    cases t with
    | true =>
      exact wp_mono (ih c1 hs1 h1 (fun t ht => hN t (by simp [SCode.writes, ht])) hr (by simpa using hd)) fun ε a' w' h => h.mono fun t ht => by simp [SCode.writes, ht]
    | false =>
      exact wp_mono (ih c2 hs2 h2 (fun t ht => hN t (by simp [SCode.writes, ht])) hr (by simpa using hd)) fun ε a' w' h => h.mono fun t ht => by simp [SCode.writes, ht]
  | block id c1 =>
    simp only [codeC, Option.bind_eq_some_iff] at hc
    obtain ⟨x1, h1, hc⟩ := hc
    cases hc
    rw [den_block] at hd
    have hs1 : SizeOf.sizeOf c1 < n := by simp at hn; omega
    refine wp_block (wp_mono (ih c1 hs1 h1 hN hr hd) fun ε a1 w1 ⟨y, e1, S1, h3, hk, h4⟩ => ?_)
    subst h3
    cases y with
    | normal => exact ⟨.normal, e1, S1, rfl, hk, h4⟩
    | ret => exact ⟨.ret, e1, S1, rfl, hk, h4⟩
    | exit i =>
      simp only [exK_exit] at hk
      cases hi : Nat.beq i id with
      | true =>
        rw [hi] at hk
        simp only [exOf, Exit.inBlock]
        rw [if_pos (Nat.eq_of_beq_eq_true hi)]
        exact ⟨.normal, e1, S1, rfl, hk, h4⟩
      | false =>
        rw [hi] at hk
        simp only [exOf, Exit.inBlock]
        rw [if_neg fun h => by subst h; simp [Nat.beq_refl] at hi]
        exact ⟨.exit i, e1, S1, rfl, hk, h4⟩
  | loop c0 =>
    unfold codeC at hc
    split at hc
    case h_6 id ops c1 l ls0 heq =>
      cases heq
      split at hc
      · -- a walk over a map
        rename_i it tup ok hwalk
        simp only [Option.bind_eq_some_iff] at hc
        obtain ⟨x1, h1, hc⟩ := hc
        obtain ⟨hdj, hc⟩ := bif_some hc
        cases hc
        simp only [Bool.and_eq_true] at hdj
        obtain ⟨⟨dinv, dpass⟩, dit⟩ := hdj
        have hsz : SizeOf.sizeOf c1 < n := by simp at hn; omega
        have hitw : it ∉ tup :: ok :: x1.1.writes := disj_of dit (by simp)
        have htN : tup < N := hN tup (by simp [SCode.writes])
        have hoN : ok < N := hN ok (by simp [SCode.writes])
        have hxN : ∀ t ∈ x1.1.writes, t < N := fun t ht => hN t (by simp [SCode.writes, ht])
        rw [den_range] at hd
        have hfinish : ∀ {G2 : Gst} {S2 : Store} {a2 : Act} {w2 : World} {e2 : Env} (x' : Ex), Rel X G2 b N e2 S2 a2 w2 → Ext S.length b G S G2 S2 → Keep G S w G2 S2 w2 → (∀ t, t ∉ tup :: ok :: x1.1.writes → a2.tmps.getD t undef = a.tmps.getD t undef) →
            K x' (envOf l.outs (e2.gets l.outs) 0 (e.only l.pass)) S2 = some r → CodeQ X G S w a b N (tup :: ok :: x1.1.writes) K r (exOf x') a2 w2 := fun x' r2 hE hK hf hk =>
          ⟨x', _, _, rfl, hk, ⟨_, hr.round r2 hE hf dpass, hE, hK⟩, hf⟩
        have key : ∀ (k : Nat) (vs : List AV) (S1 : Store) (G1 : Gst) (a1 : Act) (w1 : World), rangeK (e.get it) (fun t o vs S' Kn => den C b x1.1 (exK (fun e' S'' => Kn (e'.gets l.live) S'')
              (fun i e' S'' => K (.exit i) (envOf l.outs (e'.gets l.outs) 0 (e.only l.pass)) S'')
              (fun e' S'' => K .ret (envOf l.outs (e'.gets l.outs) 0 (e.only l.pass)) S''))
            (((envOf l.live vs 0 (e.only l.inv)).put (some tup) t).put (some ok) o) S') k vs S1 = some r → Rel X G1 b N (envOf l.live vs 0 (e.only l.inv)) S1 a1 w1 → Ext S.length b G S G1 S1 → Keep G S w G1 S1 w1 →
            (∀ t, t ∉ tup :: ok :: x1.1.writes → a1.tmps.getD t undef = a.tmps.getD t undef) → Code.rounds T.P (.seq (.region id ops false) c1) (CodeQ X G S w a b N (tup :: ok :: x1.1.writes) K r) (k + 1) a1 w1 := by
          intro k
          induction k with
          | zero =>
            intro vs S1 G1 a1 w1 h r1 E1 K1 f1
            simp only [rangeK] at h
            split at h
            · rename_i hs0
              have hit : V2 G1 S1 (a1.tmps.getD it undef) (e.get it) := by rw [f1 it hitw]; exact (hr.env it).mono E1 (hr.bel it)
              rw [rounds_succ]
              refine wp_seq (wp_mono (walk_region r1 hwalk hit hs0 htN hoN) fun ε a2 w2 ⟨hε, f2, hcase⟩ => ?_)
              subst hε
              rcases hcase with ⟨_, G2, r2, E2, K2⟩ | ⟨c, hc, _⟩
              · refine wp_mono (ih c1 hsz h1 hxN r2 h) fun ε a3 w3 ⟨y, e3, S3, h3, hK3, h4⟩ => ?_
                subst h3
                obtain ⟨⟨G3, r3, E3, K3⟩, f3⟩ := h4
                have E02 := E1.trans E2 E1.len
                have E03 := E02.trans E3 E02.len
                have K03 := (K1.trans K2).trans K3
                have f03 : ∀ t, t ∉ tup :: ok :: x1.1.writes → a3.tmps.getD t undef = a.tmps.getD t undef := fun t ht => by
                  simp only [List.mem_cons, not_or] at ht
                  rw [f3 t ht.2.2, f2 t ht.1 ht.2.1, f1 t (by simp [ht])]
                cases y with
                | normal => cases hK3
                | exit i => exact hfinish (.exit i) r3 E03 K03 f03 hK3
                | ret => exact hfinish .ret r3 E03 K03 f03 hK3
              · simp at hc
            · cases h
          | succ k ihk =>
            intro vs S1 G1 a1 w1 h r1 E1 K1 f1
            simp only [rangeK] at h
            obtain ⟨cs, hs0, h⟩ := bind_some_of h
            obtain ⟨hne, hall⟩ := agree_some.1 h
            have hit : V2 G1 S1 (a1.tmps.getD it undef) (e.get it) := by rw [f1 it hitw]; exact (hr.env it).mono E1 (hr.bel it)
            rw [rounds_succ]
            refine wp_seq (wp_mono (walk_region r1 hwalk hit hs0 htN hoN) fun ε a2 w2 ⟨hε, f2, hcase⟩ => ?_)
            subst hε
            rcases hcase with ⟨he, _⟩ | ⟨c, hc, G2, r2, E2, K2⟩
            · exact absurd he hne
            · refine wp_mono (ih c1 hsz h1 hxN r2 (hall c hc)) fun ε a3 w3 ⟨y, e3, S3, h3, hK3, h4⟩ => ?_
              subst h3
              obtain ⟨⟨G3, r3, E3, K3⟩, f3⟩ := h4
              have E02 := E1.trans E2 E1.len
              have E03 := E02.trans E3 E02.len
              have K03 := (K1.trans K2).trans K3
              have f03 : ∀ t, t ∉ tup :: ok :: x1.1.writes → a3.tmps.getD t undef = a.tmps.getD t undef := fun t ht => by
                simp only [List.mem_cons, not_or] at ht
                rw [f3 t ht.2.2, f2 t ht.1 ht.2.1, f1 t (by simp [ht])]
              cases y with
              | normal => exact ihk _ S3 G3 a3 w3 hK3 (hr.round r3 E03 f03 dinv) E03 K03 f03
              | exit i => exact hfinish (.exit i) r3 E03 K03 f03 hK3
              | ret => exact hfinish .ret r3 E03 K03 f03 hK3
        refine wp_loop_rounds (leftI (e.get it) S + 1) (key _ _ S G a w hd ?_ (Ext.refl G S) (Keep.refl G S w) (fun _ _ => rfl))
        exact hr.round hr (Ext.refl G S) (fun t _ => rfl) dinv
      · simp only [Option.bind_eq_some_iff] at hc
        obtain ⟨x1, h1, hc⟩ := hc
        obtain ⟨hdj, hc⟩ := bif_some hc
        cases hc
        simp only [Bool.and_eq_true] at hdj
        exact loop _ (by simp at hn ⊢; omega) (ls' := ls0) h1 hdj.1 hdj.2 hN hr hd
    case h_7 c1 l ls0 _ heq =>
      cases heq
      simp only [Option.bind_eq_some_iff] at hc
      obtain ⟨x1, h1, hc⟩ := hc
      obtain ⟨hdj, hc⟩ := bif_some hc
      cases hc
      simp only [Bool.and_eq_true] at hdj
      exact loop c0 (by simp at hn; omega) (ls' := ls0) h1 hdj.1 hdj.2 hN hr hd
    all_goals (first | (rename_i heq; cases heq; done) | (cases hc; done) | (rename_i heq _; cases heq; done))
  | exit id =>
    simp only [codeC, Option.some.injEq, Prod.mk.injEq] at hc
    obtain ⟨rfl, rfl⟩ := hc
    rw [den_exit] at hd
    exact wp_exit ⟨.exit _, _, _, rfl, hd, Post.refl hr⟩
  | ret =>
    simp only [codeC, Option.some.injEq, Prod.mk.injEq] at hc
    obtain ⟨rfl, rfl⟩ := hc
    rw [den_ret] at hd
    exact wp_ret ⟨.ret, _, _, rfl, hd, Post.refl hr⟩
  | _ => simp [codeC] at hc

end
end Go.Abs

/-
  Functions: their results, what is handed back, and calls to whatever depth.
-/
namespace Go.Abs
open Go Go.RowKit

section
variable {T : Tabs} {an : Ann} {X : Ctx} {G : Gst} {b N : Nat} {e : Env} {S : Store} {a : Act} {w : World} {C : CallEnv}

/-- One result. -/
theorem res_ok (hr : Rel X G b N e S a w) {r : ResultVar} {s : SRes} {x : AV} (h : resC T r = some s) (hv : resV e S s = some x) :
    ∃ v, (match r with | .tmp t => pure (a.tmps.getD t undef) | .cell ad t => do loadVar t (← asAddr (a.tmps.getD ad undef)) : Sem Value).run T.P w = .ok v w ∧ V2 G S v x ∧ below S.length x = true := by
  cases r with
  | tmp t =>
    simp only [resC, Option.some.injEq] at h
    subst h
    simp only [resV, Option.some.injEq] at hv
    subst hv
    exact ⟨_, rfl, hr.env t, hr.bel t⟩
  | cell ad t =>
    simp only [resC, Option.bind_eq_some_iff] at h
    obtain ⟨n, h1, h2⟩ := h
    have hs : s = .cell ad (n.getD 0) ∧ n ≠ some 0 := by
      cases n with
      | none => cases h2; exact ⟨rfl, by simp⟩
      | some k => cases k with
        | zero => cases h2
        | succ k => cases h2; exact ⟨rfl, by simp⟩
    obtain ⟨rfl, hn0⟩ := hs
    simp only [resV] at hv
    have hshape : (bif Nat.beq (n.getD 0) 0 then none else some (n.getD 0)) = n := by
      cases n with
      | none => rfl
      | some k => cases k with
        | zero => exact absurd rfl hn0
        | succ k => rfl
    rw [hshape] at hv
    obtain ⟨v, e1, e2⟩ := op_load hr.sat h1 (hr.env ad) hv
    refine ⟨v, ?_, e2, loadV_below hr.sat hr.hb (hr.env ad) hv⟩
    have hp : ∃ p, a.tmps.getD ad undef = .pointer (some p) := by
      have hv' := hr.env ad
      cases hc : e ad <;> rw [show e.get ad = e ad from rfl, hc] at hv <;> simp only [loadV, reduceCtorEq] at hv
      · rw [hc] at hv'; obtain ⟨blk, s, h, _⟩ := hv'.ip_inv; exact ⟨_, h⟩
      · rw [hc] at hv'; exact ⟨_, hv'.ptr_inv⟩
    obtain ⟨p, hp⟩ := hp
    rw [hp] at e1
    have e1' : (loadVar t p).run T.P w = .ok v w := by simpa [Instr.loadAt, Instr.sureAddr] using e1
    show ((do loadVar t (← asAddr (a.tmps.getD ad undef)) : Sem Value)).run T.P w = .ok v w
    rw [hp]
    simpa [asAddr] using e1'


theorem resVs_ok (hr : Rel X G b N e S a w) : ∀ {rs : List ResultVar} {ss : List SRes} {xs : List AV}, resCs T rs = some ss → resVs e S ss = some xs →
    ∃ vs : List Value, (rs.mapM fun r => (match r with | .tmp t => pure (a.tmps.getD t undef) | .cell ad t => do loadVar t (← asAddr (a.tmps.getD ad undef)) : Sem Value)).run T.P w = .ok vs w ∧ vs.length = xs.length ∧ (∀ j (h : j < xs.length), V2 G S (vs.getD j undef) (xs[j])) ∧ ∀ j (h : j < xs.length), below S.length (xs[j]) = true
  | [], ss, xs, h1, h2 => by
    simp only [resCs, Option.some.injEq] at h1
    subst h1
    simp only [resVs, Option.some.injEq] at h2
    subst h2
    exact ⟨[], rfl, rfl, fun j hj => by simp at hj, fun j hj => by simp at hj⟩
  | r :: rs, ss, xs, h1, h2 => by
    simp only [resCs, Option.bind_eq_some_iff] at h1
    obtain ⟨s, k1, ss', k2, k3⟩ := h1
    cases k3
    simp only [resVs, Option.bind_eq_some_iff] at h2
    obtain ⟨x, q1, xs', q2, q3⟩ := h2
    cases q3
    obtain ⟨v, v1, v2, v3⟩ := res_ok hr k1 q1
    obtain ⟨vs, w1, w2, w3, w4⟩ := resVs_ok hr k2 q2
    refine ⟨v :: vs, ?_, by simp [w2], fun j hj => ?_, fun j hj => ?_⟩
    · rw [List.mapM_cons]
      simp only [Sem.run_bind, v1, Result.andThen_ok, w1, Sem.run_pure]
    · cases j with
      | zero => exact v2
      | succ j => exact w3 j (by simpa using hj)
    · cases j with
      | zero => exact v3
      | succ j => exact w4 j (by simpa using hj)


/-- Cells that become known: those of entries behind n alone, as_ they are. -/
structure Knows (G : Gst) (S : Store) (w : World) (n : Nat) (M' : Mem) : Prop where
  le : MLe G.M M'
  diff : ∀ c o, M' c o ≠ G.M c o → (∃ i, n ≤ i ∧ Acts G S i c) ∧ M' c o = w.cell? ⟨c, o, none⟩

theorem Knows.refl {n : Nat} : Knows G S w n G.M := ⟨MLe.refl _, fun _ _ h => absurd rfl h⟩

open Classical in
theorem Knows.union {n : Nat} {M1 M2 : Mem} (h1 : Knows G S w n M1) (h2 : Knows G S w n M2) : ∃ M, Knows G S w n M ∧ MLe M1 M ∧ MLe M2 M := by
  refine ⟨fun c o => if M1 c o ≠ G.M c o then M1 c o else M2 c o, ⟨fun c o v hv => ?_, fun c o hd => ?_⟩, fun c o v hv => ?_, fun c o v hv => ?_⟩
  · show (if _ then _ else _) = _
    split
    · exact h1.le _ _ _ hv
    · exact h2.le _ _ _ hv
  · by_cases hc : M1 c o ≠ G.M c o
    · simp only [if_pos hc] at hd ⊢
      exact h1.diff c o hc
    · simp only [if_neg hc] at hd ⊢
      exact h2.diff c o hd
  · show (if _ then _ else _) = _
    split
    · exact hv
    · rename_i hc
      have : M1 c o = G.M c o := Classical.not_not.1 hc
      exact h2.le _ _ _ (this ▸ hv)
  · show (if _ then _ else _) = _
    split
    · rename_i hc
      have e1 := (h1.diff c o hc).2
      by_cases hd : M2 c o = G.M c o
      · exact absurd (by rw [h1.le c o v (hd ▸ hv), ← hd, hv]) hc
      · rw [e1, ← (h2.diff c o hd).2]; exact hv
    · exact hv


def Gst.with (G : Gst) (M' : Mem) : Gst := { G with M := M' }

theorem ext_with {M' : Mem} (h : MLe G.M M') : Ext S.length b G S (G.with M') S :=
  ⟨h, fun _ _ => rfl, fun _ _ k _ h => ⟨k, h, Nat.le_refl _, fun _ => rfl⟩, Nat.le_refl _, fun _ _ => rfl, fun _ _ e h => ⟨e, h, fun _ _ h => h⟩⟩

theorem fin1_ok (hs : Sat X G b S w) {n : Nat} {v : Value} {p q : AV} (hv : V2 G S v p) (hp : below S.length p = true) (h : fin1 n S p = some q) :
    ∃ M', Knows G S w n M' ∧ V2 (G.with M') S v q ∧ below S.length q = true := by
  have same : q = p → ∃ M', Knows G S w n M' ∧ V2 (G.with M') S v q ∧ below S.length q = true := fun e => ⟨G.M, Knows.refl, by subst e; exact hv, by subst e; exact hp⟩
  cases p <;> simp only [fin1, reduceCtorEq, Option.some.injEq] at h
  case sl xs t =>
    cases t with
    | own i =>
      simp only [fin1, Option.some.injEq] at h
      subst h
      cases hi : Nat.blt i n with
      | true => exact ⟨G.M, Knows.refl, hv, by simpa using hp⟩
      | false => exact ⟨G.M, Knows.refl, .one (.v0 hv.sl_none), by simp [below]⟩
    | none => simp only [fin1, Option.some.injEq] at h; exact same h.symm
    | full => simp only [fin1, Option.some.injEq] at h; exact same h.symm
  case osl i o l sz =>
    cases hi : Nat.blt i n with
    | true => rw [hi] at h; cases h; exact same rfl
    | false =>
      rw [hi] at h
      simp only [cond_false] at h
      obtain ⟨xs, h1, h⟩ := Option.bind_eq_some_iff.1 h
      obtain ⟨ys, h2, h⟩ := Option.bind_eq_some_iff.1 h
      cases h
      obtain ⟨M', k1, k2, k3⟩ := frozen_rows hs hv h1 h2
      refine ⟨M', ⟨k1, fun c o hd => ?_⟩, .one (.v0 k2), by simp [below]⟩
      obtain ⟨rfl, q2, q3, _⟩ := k3 c o hd
      have : ¬ i < n := fun h => by rw [blt_iff.2 h] at hi; cases hi
      exact ⟨⟨i, by omega, q2⟩, q3⟩
  case agg cs =>
    obtain ⟨cs', h1, h2⟩ := Option.bind_eq_some_iff.1 h
    cases h2
    obtain ⟨vs, rfl, k1, k2⟩ := hv.agg_inv
    have hl := imms_length h1
    refine ⟨G.M, Knows.refl, .agg _ _ (by omega) fun j hj => .v0 (imm1_ok (imms_get h1 (by omega) hj) (k2 j (by omega))), ?_⟩
    rw [below_agg_eq]
    exact belows_of_get fun j hj => (imm1_ok (imms_get h1 (by omega) hj) (k2 j (by omega))).low _
  all_goals exact same h.symm

theorem fins_ok (hs : Sat X G b S w) {n : Nat} : ∀ {xs ys : List AV} {vs : List Value}, vs.length = xs.length → (∀ j (h : j < xs.length), V2 G S (vs.getD j undef) (xs[j])) → (∀ j (h : j < xs.length), below S.length (xs[j]) = true) → fins n S xs = some ys →
    ∃ M', Knows G S w n M' ∧ ys.length = xs.length ∧ (∀ j (h : j < ys.length), V2 (G.with M') S (vs.getD j undef) (ys[j])) ∧ ∀ j (h : j < ys.length), below S.length (ys[j]) = true
  | [], ys, vs, _, _, _, h => by
    simp only [fins, Option.some.injEq] at h
    subst h
    exact ⟨G.M, Knows.refl, rfl, fun j hj => by simp at hj, fun j hj => by simp at hj⟩
  | x :: xs, ys, vs, hl, hv, hb, h => by
    simp only [fins, Option.bind_eq_some_iff] at h
    obtain ⟨y, h1, ys', h2, h3⟩ := h
    cases h3
    cases vs with
    | nil => simp at hl
    | cons v vs =>
      obtain ⟨M1, a1, a2, a3⟩ := fin1_ok hs (hv 0 (by simp)) (hb 0 (by simp)) h1
      obtain ⟨M2, c1, c2, c3, c4⟩ := fins_ok hs (vs := vs) (by simpa using hl) (fun j hj => hv (j + 1) (by simpa using hj)) (fun j hj => hb (j + 1) (by simpa using hj)) h2
      obtain ⟨M, d1, d2, d3⟩ := a1.union c1
      have up : ∀ {M1 : Mem} {v : Value} {q : AV}, MLe M1 M → V2 (G.with M1) S v q → below S.length q = true → V2 (G.with M) S v q := fun {M1 v q} hle hv hb => V2.mono (n := S.length) (b := b) (G := G.with M1) (G' := G.with M) (S' := S) ⟨hle, fun _ _ => rfl, fun _ _ k _ h => ⟨k, h, Nat.le_refl _, fun _ => rfl⟩, Nat.le_refl _, fun _ _ => rfl, fun _ _ e h => ⟨e, h, fun _ _ h => h⟩⟩ hv hb
      refine ⟨M, d1, by simp [c2], fun j hj => ?_, fun j hj => ?_⟩
      · cases j with
        | zero => exact up d2 a2 a3
        | succ j => exact up d3 (c3 j (by simpa using hj)) (c4 j (by simpa using hj))
      · cases j with
        | zero => exact a3
        | succ j => exact c4 j (by simpa using hj)


/-- The value handed back. -/
def outR (vs : List Value) : Value := match vs with
  | [v] => v
  | vs => .tuple vs.toArray

theorem out_ok {G : Gst} {S : Store} {vs : List Value} {xs : List AV} (hl : vs.length = xs.length) (hv : ∀ j (h : j < xs.length), V2 G S (vs.getD j undef) (xs[j])) : V2 G S (outR vs) (outV xs) := by
  have tup : ∀ (vs : List Value) (xs : List AV), vs.length = xs.length → (∀ j (h : j < xs.length), V2 G S (vs.getD j undef) (xs[j])) → V2 G S (.tuple vs.toArray) (.tup xs) := fun vs xs hl hv =>
    .tup _ _ (by simpa using hl) fun j hj => by
      have := hv j hj
      simpa [List.getD_eq_getElem?_getD, Array.getD_eq_getD_getElem?] using this
  match vs, xs, hl, hv with
  | [], [], hl, hv => exact tup [] [] hl hv
  | [v], [x], hl, hv => exact hv 0 (by simp)
  | v :: u :: vs, x :: y :: xs, hl, hv => exact tup _ _ hl hv

theorem out_below {n : Nat} {xs : List AV} (h : belows n xs = true) : below n (outV xs) = true := by
  unfold outV
  split
  · simpa [belows] using h
  · rw [below_tup_eq]; exact h


theorem fins_ok0 (hs : Sat X G b S w) {n : Nat} : ∀ {xs ys : List AV} {vs : List Value}, vs.length = xs.length → (∀ j (h : j < xs.length), V2 G S (vs.getD j undef) (xs[j])) → (∀ j (h : j < xs.length), below S.length (xs[j]) = true) → noOsl n xs = true → fins n S xs = some ys →
    ys.length = xs.length ∧ (∀ j (h : j < ys.length), V2 G S (vs.getD j undef) (ys[j])) ∧ ∀ j (h : j < ys.length), below S.length (ys[j]) = true
  | [], ys, vs, _, _, _, _, h => by
    simp only [fins, Option.some.injEq] at h
    subst h
    exact ⟨rfl, fun j hj => by simp at hj, fun j hj => by simp at hj⟩
  | x :: xs, ys, vs, hl, hv, hb, hno, h => by
    simp only [fins, Option.bind_eq_some_iff] at h
    obtain ⟨y, h1, ys', h2, h3⟩ := h
    cases h3
    cases vs with
    | nil => simp at hl
    | cons v vs =>
      have hx : V2 G S v y ∧ below S.length y = true := by
        have hv0 : V2 G S v x := hv 0 (by simp)
        have hb0 : below S.length x = true := hb 0 (by simp)
        cases x <;> simp only [fin1, reduceCtorEq, Option.some.injEq] at h1
        case sl xs t =>
          cases t with
          | own i =>
            simp only [fin1, Option.some.injEq] at h1
            subst h1
            cases hi : Nat.blt i n with
            | true => exact ⟨hv0, by simpa using hb0⟩
            | false => exact ⟨.one (.v0 hv0.sl_none), by simp [below]⟩
          | none => simp only [fin1, Option.some.injEq] at h1; subst h1; exact ⟨hv0, hb0⟩
          | full => simp only [fin1, Option.some.injEq] at h1; subst h1; exact ⟨hv0, hb0⟩
        case osl i o l sz =>
          simp only [noOsl, Bool.and_eq_true] at hno
          rw [hno.1] at h1
          cases h1
          exact ⟨hv0, hb0⟩
        case agg cs =>
          obtain ⟨cs', g1, g2⟩ := Option.bind_eq_some_iff.1 h1
          cases g2
          obtain ⟨vs, rfl, k1, k2⟩ := hv0.agg_inv
          have hl := imms_length g1
          refine ⟨.agg _ _ (by omega) fun j hj => .v0 (imm1_ok (imms_get g1 (by omega) hj) (k2 j (by omega))), ?_⟩
          rw [below_agg_eq]
          exact belows_of_get fun j hj => (imm1_ok (imms_get g1 (by omega) hj) (k2 j (by omega))).low _
        all_goals (subst h1; exact ⟨hv0, hb0⟩)
      have hno' : noOsl n xs = true := by
        cases x <;> first | exact hno | (simp only [noOsl, Bool.and_eq_true] at hno; exact hno.2)
      obtain ⟨c2, c3, c4⟩ := fins_ok0 hs (vs := vs) (by simpa using hl) (fun j hj => hv (j + 1) (by simpa using hj)) (fun j hj => hb (j + 1) (by simpa using hj)) hno' h2
      refine ⟨by simp [c2], fun j hj => ?_, fun j hj => ?_⟩
      · cases j with
        | zero => exact hx.1
        | succ j => exact c3 j (by simpa using hj)
      · cases j with
        | zero => exact hx.2
        | succ j => exact c4 j (by simpa using hj)

/-- What a call hands back. -/
theorem finish_ok {G0 : Gst} {S0 : Store} {w0 : World} {keep : Bool} {vs : List Value} {xs : List AV} {x : AV} {S' : Store} (hr : Rel X G S0.length N e S a w) (hE : Ext S0.length S0.length G0 S0 G S) (hK : Keep G0 S0 w0 G S w)
    (hl : vs.length = xs.length) (hv : ∀ j (h : j < xs.length), V2 G S (vs.getD j undef) (xs[j])) (hb : ∀ j (h : j < xs.length), below S.length (xs[j]) = true) (h : finish keep S0.length xs S = some (x, S')) :
    OpOK X G0 S0.length S0 w0 x S' (outR vs) w := by
  unfold finish at h
  obtain ⟨ys, h1, h2⟩ := Option.bind_eq_some_iff.1 h
  have hS := hE.len
  split at h2
  · rename_i hbel
    cases h2
    have hst : ∃ M', Knows G S w S0.length M' ∧ ys.length = xs.length ∧ (∀ j (h : j < ys.length), V2 (G.with M') S (vs.getD j undef) (ys[j])) := by
      cases keep with
      | true => cases h1; exact ⟨G.M, Knows.refl, rfl, hv⟩
      | false =>
        obtain ⟨M', a1, a2, a3, _⟩ := fins_ok hr.sat hl hv hb h1
        exact ⟨M', a1, a2, a3⟩
    obtain ⟨M', k1, k2, k3⟩ := hst
    have hlt : (S.take S0.length).length = S0.length := by simp; omega
    have ht := hr.sat.trim hS (Nat.le_refl _) (fun i _ h1 h2 _ => by omega)
    have hne : ∀ i c, Acts G (S.take S0.length) i c → ∀ o, M' c o = G.M c o := by
      intro i c ha o
      by_cases hd : M' c o = G.M c o
      · exact hd
      · obtain ⟨⟨i', hi', ha'⟩, _⟩ := k1.diff c o hd
        obtain ⟨q1, q2⟩ := acts_trim ha
        have := hr.sat.dis i i' c q1 ha'
        omega
    have hE1 : Ext (S.take S0.length).length S0.length G (S.take S0.length) (G.with M') (S.take S0.length) := ext_with k1.le
    have hs' : Sat X (G.with M') S0.length (S.take S0.length) w := by
      refine ⟨ht.below, ht.m0.trans k1.le, fun c o v hm => ?_, fun i en he => ?_, ht.dis, ht.base, ht.bel⟩
      · by_cases hd : M' c o = G.M c o
        · exact ht.im c o v (by rw [← hd]; exact hm)
        · rw [← (k1.diff c o hd).2]; exact hm
      · exact (ht.ent i en he).keep he hE1 (ht.lowS (by omega) he) rfl rfl rfl (fun _ _ => rfl) (fun c ha o ho => by show M' c o = none; rw [hne i c ha o]; exact ho)
    refine ⟨G.with M', (hE.trim (Nat.le_refl _) hS).trans hE1 (by omega), ⟨hK.size, hK.blk, fun i k ha => hK.act i k (acts_trim (G := G) ha).1, fun k o hk hno => ?_⟩, hs', ?_, by rw [hlt]; exact out_below hbel⟩
    · show M' k o = _
      rw [← hK.mem k o hk hno]
      by_cases hd : M' k o = G.M k o
      · exact hd
      · obtain ⟨⟨i', _, ha'⟩, _⟩ := k1.diff k o hd
        rcases hK.act i' k ha' with ⟨j, hj⟩ | hge
        · exact absurd hj (hno j)
        · omega
    · refine out_ok (by omega) fun j hj => ?_
      exact (k3 j hj).mono (b := S0.length) (((Ext.refl (b := S0.length) (G.with M') S).weak hS).trim (Nat.le_refl _) hS) (below_all_get hbel hj)
  · split at h2
    · rename_i hc
      cases h2
      have hst : ys.length = xs.length ∧ (∀ j (h : j < ys.length), V2 G S (vs.getD j undef) (ys[j])) ∧ ∀ j (h : j < ys.length), below S.length (ys[j]) = true := by
        cases keep with
        | true => cases h1; exact ⟨rfl, hv, hb⟩
        | false => exact fins_ok0 hr.sat hl hv hb (by simpa using hc) h1
      obtain ⟨k1, k2, k3⟩ := hst
      exact ⟨G, hE, hK, hr.sat, out_ok (by omega) k2, out_below (belows_of_get k3)⟩
    · cases h2

end
end Go.Abs

/-
  A function's text, and calls to whatever depth: what the reading comes to is what the program does.
-/
namespace Go.Abs
open Go Go.RowKit

section
variable {T : Tabs} {an : Ann} {X : Ctx} {G : Gst} {b N : Nat} {e : Env} {S : Store} {a : Act} {w : World} {C : CallEnv}

theorem outR_eq (vs : List Value) : (if h : vs.toArray.size = 1 then vs.toArray[0] else .tuple vs.toArray) = outR vs := by
  match vs with
  | [] => rfl
  | [v] => rfl
  | _ :: _ :: _ => rfl

theorem results_run {fn : Func} {tmps : Array Value} {vs : List Value}
    (h : (fn.results.toList.mapM fun r => (match r with | .tmp t => pure (tmps.getD t undef) | .cell ad t => do loadVar t (← asAddr (tmps.getD ad undef)) : Sem Value)).run T.P w = .ok vs w) :
    (results fn tmps).run T.P w = .ok (outR vs) w := by
  unfold results
  rw [Array.mapM_eq_mapM_toList]
  have h2 : ((fn.results.toList.mapM (fun | .tmp t => pure (tmps.getD t undef) | .cell ad t => do loadVar t (← asAddr (tmps.getD ad undef)) : ResultVar → Sem Value))).run T.P w = .ok vs w := h
  simp only [map_eq_pure_bind, Sem.run_bind, Sem.run_pure, Result.andThen_ok]
  refine (congrArg (fun r => (Result.andThen r _ : Result _)) ((congrArg (fun r => (Result.andThen r _ : Result _)) h2))).trans ?_
  simp only [Result.andThen_ok, outR_eq]

theorem initEnv (args : List AV) (n t : Nat) : ∃ k : Nat, (envOf (List.range n) args 0 fun _ => .u) t = if t < n then args.getD t .u else .u := by
  have key : ∀ (ks : List Nat) (i : Nat), (∀ j (h : j < ks.length), ks[j] = i + j) → (envOf ks args i fun _ => .u) t = if i ≤ t ∧ t < i + ks.length then args.getD t .u else .u := by
    intro ks
    induction ks with
    | nil => intro i _; simp [envOf]; intro h1 h2; omega
    | cons k ks ih =>
      intro i hk
      have h0 : k = i := by have := hk 0 (by simp); simpa using this
      subst h0
      have ih' := ih (k + 1) (fun j hj => by have := hk (j + 1) (by simp; omega); simp at this; omega)
      simp only [envOf]
      cases hb : Nat.beq k t with
      | true =>
        obtain rfl : k = t := Nat.eq_of_beq_eq_true hb
        simp
      | false =>
        have hne : k ≠ t := fun h => by subst h; simp [Nat.beq_refl] at hb
        simp only [cond_false, ih', List.length_cons]
        by_cases h1 : k + 1 ≤ t ∧ t < k + 1 + ks.length
        · rw [if_pos h1, if_pos (by omega)]
        · rw [if_neg h1, if_neg (by omega)]
  refine ⟨0, ?_⟩
  rw [key (List.range n) 0 (fun j hj => by simp)]
  simp

/-- What a reading of a function's text answers is what a call of it does. -/
theorem func_ok (B : Base T X C) (hm : T.P.follows .mixedOrders = true) {f : Nat} {fn : Func} {sf : SFunc} {args : List AV} {x : AV} {S' : Store} {vs : Array Value} (hf : T.P.funcs[f]? = some fn) (hc : funcC T an fn = some sf) (hd : denF C sf args S = some (x, S'))
    (hs : Sat X G S.length S w) (ha : ArgsOK G S vs args) : Calls T.P f vs w fun ε w' => ∃ v, ε = .returned v ∧ OpOK X G S.length S w x S' v w' := by
  unfold funcC at hc
  simp only [Option.bind_eq_some_iff] at hc
  obtain ⟨c, hb, x1, hcode, rs, hres, hc⟩ := hc
  obtain ⟨hcond, hc⟩ := bif_some hc
  cases hc
  simp only [Bool.and_eq_true, List.all_eq_true, Nat.ble_eq] at hcond
  obtain ⟨hwr, hpar⟩ := hcond
  refine calls_of_wp hf hb ?_
  unfold denF at hd
  simp only at hd
  have hsz := ha.size
  -- the frame at the outset
  have hget : ∀ t, (vs ++ Array.replicate (fn.ntmps - vs.size) undef).getD t undef = if h : t < vs.size then vs[t] else undef := by
    intro t
    rw [Array.getD_eq_getD_getElem?, Array.getElem?_append]
    split
    · rename_i h; simp [h]
    · rename_i h
      rw [Array.getElem?_replicate]
      split <;> simp
  have hrel : Rel X G S.length (max vs.size fn.ntmps) (envOf (List.range (fn.params.size + fn.nfree)) args 0 fun _ => .u) S { tmps := vs ++ Array.replicate (fn.ntmps - vs.size) undef, defers := [] } w := by
    refine ⟨hs, Nat.le_refl _, by simp; omega, rfl, fun t => ?_, fun t => ?_⟩
    · obtain ⟨_, he⟩ := initEnv args (fn.params.size + fn.nfree) t
      rw [he]
      show V2 G S ((vs ++ Array.replicate (fn.ntmps - vs.size) undef).getD t undef) _
      split
      · by_cases hj : t < args.length
        · have h1 := ha.v2 t hj
          have e1 : (vs ++ Array.replicate (fn.ntmps - vs.size) undef).getD t undef = vs.getD t undef := by
            rw [hget, dif_pos (by omega), Array.getD_eq_getD_getElem?]
            simp [show t < vs.size by omega]
          rw [e1]
          simpa [List.getD_eq_getElem?_getD, hj] using h1
        · simp only [List.getD_eq_getElem?_getD, List.getElem?_eq_none (Nat.le_of_not_lt hj), Option.getD_none]
          exact .u _
      · exact .u _
    · obtain ⟨_, he⟩ := initEnv args (fn.params.size + fn.nfree) t
      rw [he]
      split
      · by_cases hj : t < args.length
        · simpa [List.getD_eq_getElem?_getD, hj] using ha.bel t hj
        · simp only [List.getD_eq_getElem?_getD, List.getElem?_eq_none (Nat.le_of_not_lt hj), Option.getD_none]
          simp [below_tup_eq, belows]
      · simp [below_tup_eq, belows]
  have hN : ∀ t ∈ x1.1.writes, t < max vs.size fn.ntmps := fun t ht => by have := hwr t ht; rw [blt_iff] at this; omega
  refine wp_mono (code_ok B hm (SizeOf.sizeOf c + 1) c (by omega) hcode hN hrel hd) fun ε a' w' ⟨y, e', S1, h1, hk, h2⟩ => ?_
  subst h1
  obtain ⟨⟨G', r2, E2, K2⟩, _⟩ := h2
  have fin : ((resVs e' S1 rs).bind fun vs => finish an.keep S.length vs S1) = some (x, S') → a'.defers = [] ∧ ∃ v, (results fn a'.tmps).run T.P w' = .ok v w' ∧ ∃ u, Ending.returned v = .returned u ∧ OpOK X G S.length S w x S' u w' := by
    intro h
    obtain ⟨xs, h3, h4⟩ := Option.bind_eq_some_iff.1 h
    obtain ⟨us, k1, k2, k3, k4⟩ := resVs_ok r2 hres h3
    exact ⟨r2.defers, _, results_run k1, _, rfl, finish_ok r2 E2 K2 k2 k3 k4 h4⟩
  cases y with
  | normal => exact fin hk
  | ret => exact fin hk
  | exit i => cases hk

end

/-- Functions that are given otherwise keep their contracts. -/
def OverOK (Y : Prg) (X : Ctx) : Prop := ∀ f g, Y.ov f = some g → ∀ args S x S', g args S = some (x, S') →
  (∃ fn, Y.T.P.funcs[f]? = some fn ∧ fn.body.isSome = true) ∧
  ∀ G w vs, Sat X G S.length S w → ArgsOK G S vs args → Calls Y.T.P f vs w fun ε w' => ∃ v, ε = .returned v ∧ OpOK X G S.length S w x S' v w'

theorem contract_step {Y : Prg} {X : Ctx} {C : CallEnv} (hg : GlobOK Y.T X) (he : Enters Y.T.P) (hm : Y.T.P.follows .mixedOrders = true) (ho : OverOK Y X) (hC : Contract Y.T X C) : Contract Y.T X (Y.step C) := by
  intro f args S x S' h
  unfold Prg.step at h
  split at h
  · rename_i g hov
    exact ho f g hov args S x S' h
  · split at h
    · rename_i sf hsf
      obtain ⟨fn, h1, h2⟩ := Option.bind_eq_some_iff.1 hsf
      refine ⟨⟨fn, h1, ?_⟩, fun G w vs hs ha => func_ok ⟨hg, he, hC⟩ hm h1 h2 h hs ha⟩
      unfold funcC at h2
      obtain ⟨b, hb, _⟩ := Option.bind_eq_some_iff.1 h2
      simp [hb]
    · cases h

theorem contract_callN {Y : Prg} {X : Ctx} (hg : GlobOK Y.T X) (he : Enters Y.T.P) (hm : Y.T.P.follows .mixedOrders = true) (ho : OverOK Y X) : ∀ n, Contract Y.T X (Y.callN n)
  | 0 => fun f args S x S' h => by simp [Prg.callN] at h
  | n + 1 => contract_step hg he hm ho (contract_callN hg he hm ho n)

/-- ████ What the reading answers is what the program does. -/
theorem contract_call {Y : Prg} {X : Ctx} (hg : GlobOK Y.T X) (he : Enters Y.T.P) (hm : Y.T.P.follows .mixedOrders = true) (ho : OverOK Y X) : Contract Y.T X Y.call := fun f args S x S' h => by
  obtain ⟨n, hn⟩ := Y.call_some h
  exact contract_callN hg he hm ho n f args S x S' (hn n (Nat.le_refl _))

end Go.Abs
