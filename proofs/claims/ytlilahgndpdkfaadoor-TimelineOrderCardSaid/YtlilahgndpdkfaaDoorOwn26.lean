/-
  Texts of this claim: AbsReg, AbsReg2, AbsReg3, AbsReg4, AbsReg5, AbsWalk.
-/
import Derived.Orders
import Derived.Test.YtlilahgndpdkfaaDoorOwn24
set_option linter.all false
/-
  One operation in its frame: the slots, those that wait, guards, first stores.
-/
namespace Go.Abs
open Go Go.RowKit

section
variable {T : Tabs} {an : Ann} {X : Ctx} {G : Gst} {b N : Nat} {e : Env} {S : Store} {a : Act} {w : World} {C : CallEnv} {pd : Nat → Option Nat}

theorem put_getD {a : Act} {d : Option Nat} {v : Value} {N : Nat} (hN : a.tmps.size = N) (hd : ∀ t, d = some t → t < N) (t : Nat) : (a.put d v).tmps.getD t undef = if isDst d t = true then v else a.tmps.getD t undef := by
  cases d with
  | none => simp [Act.put, isDst]
  | some d =>
    have := hd d rfl
    simp only [Act.put, isDst, Array.getD_eq_getD_getElem?]
    by_cases h : d = t
    · subst h; simp [show d < a.tmps.size by omega]
    · have : Nat.beq d t = false := by rw [Bool.eq_false_iff]; exact fun h2 => h (Nat.eq_of_beq_eq_true h2)
      rw [this, Array.getElem?_setIfInBounds_ne h]; simp

theorem env_put (e : Env) (d : Option Nat) (v : AV) (t : Nat) : (e.put d v) t = if isDst d t = true then v else e t := by
  cases d with
  | none => simp [Env.put, isDst]
  | some d => cases h : Nat.beq d t <;> simp [Env.put, isDst, h]

theorem put_size (a : Act) (d : Option Nat) (v : Value) : (a.put d v).tmps.size = a.tmps.size := by cases d <;> simp [Act.put]
theorem put_defers' (a : Act) (d : Option Nat) (v : Value) : (a.put d v).defers = a.defers := by cases d <;> rfl

/-- A result written. -/
theorem Rel.put (hr : Rel X G b N e S a w) {x : AV} {S' : Store} {v : Value} {w' : World} {G' : Gst} {d : Option Nat} (hd : ∀ t, d = some t → t < N) (hE : Ext S.length b G S G' S') (hs : Sat X G' b S' w') (hv : V2 G' S' v x) (hx : below S'.length x = true) :
    Rel X G' b N (e.put d x) S' (a.put d v) w' := by
  refine ⟨hs, Nat.le_trans hr.hb hE.len, by rw [put_size]; exact hr.size, by rw [put_defers']; exact hr.defers, fun t => ?_, fun t => ?_⟩
  · rw [put_getD hr.size hd, env_put]
    split
    · exact hv
    · exact (hr.env t).mono hE (hr.bel t)
  · rw [env_put]
    split
    · exact hx
    · exact below_mono hE.len _ (hr.bel t)

theorem Pend.put {n0 : Nat} (hN : a.tmps.size = N) (hp : Pend n0 G S a w pd) {S' : Store} {v : Value} {w' : World} {G' : Gst} {d : Option Nat} (hd : ∀ t, d = some t → t < N) (hK : Keep G S w G' S' w') :
    Pend n0 G' S' (a.put d v) w' (fun t => bif isDst d t then none else pd t) := by
  refine ⟨fun t n ht => ?_, fun t s n m ht hs he => ?_⟩
  · cases h : isDst d t with
    | true => rw [h] at ht; cases ht
    | false =>
      rw [h] at ht
      obtain ⟨blk, arr, ty, h1, h2, h3, h4, h5, h6⟩ := hp.is t n ht
      have hlt := heap_lt h3
      refine ⟨blk, arr, ty, by rw [put_getD hN hd, h]; exact h1, h2, by rw [hK.blk blk hlt h5]; exact h3, h4, fun i ha => ?_, fun o => by rw [hK.mem blk o hlt h5]; exact h6 o⟩
      rcases hK.act i blk ha with ⟨j, hj⟩ | hge
      · exact h5 j hj
      · omega
  · cases h : isDst d t with
    | true => rw [h] at ht; cases ht
    | false =>
      cases h' : isDst d s with
      | true => rw [h'] at hs; cases hs
      | false =>
        rw [h] at ht; rw [h'] at hs
        rw [put_getD hN hd, put_getD hN hd, h, h'] at he
        exact hp.inj t s n m ht hs he

/-- What is the case within a region. -/
structure Reg (X : Ctx) (G0 : Gst) (S0 : Store) (w0 : World) (e0 : Env) (a0 : Act) (b N : Nat) (wr : List Nat) (e : Env) (S : Store) (pd : Nat → Option Nat) (a : Act) (w : World) : Prop where
  ex : ∃ G, Rel X G b N e S a w ∧ Ext S0.length b G0 S0 G S ∧ Keep G0 S0 w0 G S w ∧ Pend w0.heap.size G S a w pd
  base : X.W0.heap.size ≤ w0.heap.size
  fr : ∀ t, t ∉ wr → a.tmps.getD t undef = a0.tmps.getD t undef ∧ e t = e0 t

/-- One operation, abstractly, with the slots that wait. -/
noncomputable def stepO (C : CallEnv) (b : Nat) (o : SOper) (s : Env × Store × (Nat → Option Nat)) : Option (Env × Store × (Nat → Option Nat)) :=
  (pdStep o s.2.2).bind fun pd' => runOp C b o (fun e S => some (e, S, pd')) s.1 s.2.1

/-- The real operation, run or not. -/
def wpOne (P : Program) (ops : Array Oper) (Q : Exit → Act → World → Prop) (o : Oper) (K : Act → World → Prop) (a : Act) (w : World) : Prop :=
  if Region.wanted o (yielded ops a.tmps) then o.wp P a w K Q ∨ (o.asks P a w ∧ LetsOut Q) else K (a.put o.dst undef) w

variable {G0 : Gst} {S0 : Store} {w0 : World} {e0 : Env} {a0 : Act} {wr : List Nat}

theorem Reg.fr_put {t : Nat} {d : Option Nat} {x : AV} {v : Value} (h : Reg X G0 S0 w0 e0 a0 b N wr e S pd a w) (hN : a.tmps.size = N) (hd : ∀ t, d = some t → t < N ∧ t ∈ wr) (ht : t ∉ wr) : (a.put d v).tmps.getD t undef = a0.tmps.getD t undef ∧ (e.put d x) t = e0 t := by
  have hne : isDst d t = false := by
    cases d with
    | none => rfl
    | some d =>
      simp only [isDst]
      rw [Bool.eq_false_iff]
      intro h2
      have := Nat.eq_of_beq_eq_true h2
      subst this
      exact ht (hd d rfl).2
  rw [put_getD hN (fun t h => (hd t h).1), env_put, hne]
  exact h.fr t ht

/-- An operation that stands by itself, in its frame. -/
theorem Reg.yield (h : Reg X G0 S0 w0 e0 a0 b N wr e S pd a w) {o : Oper} {x : AV} {S' : Store} {Q : Exit → Act → World → Prop} {K : Act → World → Prop} {P : Program} (hd : ∀ t, o.dst = some t → t < N ∧ t ∈ wr)
    (hy : ∀ G, Rel X G b N e S a w → Yields P a.eval o w (OpOK X G b S w x S'))
    (hK : ∀ a' w', Reg X G0 S0 w0 e0 a0 b N wr (e.put o.dst x) S' (fun t => bif isDst o.dst t then none else pd t) a' w' → K a' w') : o.wp P a w K Q := by
  obtain ⟨⟨G, hr, hE, hKp, hp⟩, hbase, hfr⟩ := h
  refine (hy G hr).wp fun v w' ⟨G', e1, e2, e3, e4, e5⟩ => hK _ _ ⟨⟨G', hr.put (fun t h => (hd t h).1) e1 e3 e4 e5, hE.trans e1 hE.len, hKp.trans e2, hp.put hr.size (fun t h => (hd t h).1) e2⟩, hbase, fun t ht => ?_⟩
  exact Reg.fr_put ⟨⟨G, hr, hE, hKp, hp⟩, hbase, hfr⟩ hr.size hd ht

/-- Nothing done: the slot is written over. -/
theorem Reg.skip (h : Reg X G0 S0 w0 e0 a0 b N wr e S pd a w) {d : Option Nat} (hd : ∀ t, d = some t → t < N ∧ t ∈ wr) :
    Reg X G0 S0 w0 e0 a0 b N wr (e.put d .und) S (fun t => bif isDst d t then none else pd t) (a.put d undef) w := by
  obtain ⟨⟨G, hr, hE, hKp, hp⟩, hbase, hfr⟩ := h
  exact ⟨⟨G, hr.put (fun t h => (hd t h).1) (Ext.refl G S) hr.sat .und (by simp [below]), hE, hKp, hp.put hr.size (fun t h => (hd t h).1) (Keep.refl G S w)⟩, hbase, fun t ht => Reg.fr_put ⟨⟨G, hr, hE, hKp, hp⟩, hbase, hfr⟩ hr.size hd ht⟩

/-- A variable made whose first store is yet to come. -/
theorem Reg.allocP (h : Reg X G0 S0 w0 e0 a0 b N wr e S pd a w) {o : Oper} {t n : Nat} {i : TypeInfo} {z : Value} {Q : Exit → Act → World → Prop} {K : Act → World → Prop} {P : Program} (hd : ∀ t, o.dst = some t → t < N ∧ t ∈ wr)
    (ho : o.op = .alloc t) (hi : P.info? t = some i) (hz : i.zero = some z) (hn : z.cells.size = n)
    (hK : ∀ a' w', Reg X G0 S0 w0 e0 a0 b N wr (e.put o.dst .u) S (fun t => bif isDst o.dst t then some n else pd t) a' w' → K a' w') : o.wp P a w K Q := by
  have h0 := h
  obtain ⟨⟨G, hr, hE, hKp, hp⟩, hbase, hfr⟩ := h
  have hrun : (execOp a.eval o).run P w = .ok (.value (.pointer (some ⟨w.heap.size, 0, none⟩))) (w.alloc (.cells z.cells t)) := by
    simp [execOp, ho, Instr.alloc, zeroValue, typeInfo, hi, hz, run_newVar]
  unfold Oper.wp Oper.upon
  rw [hrun]
  have hB := alloc_below w (.cells z.cells t)
  have hs' : Sat X G b S (w.alloc (.cells z.cells t)) := hr.sat.world hr.hb hB
  have hK1 : Keep G S w G S (w.alloc (.cells z.cells t)) := ⟨hB.size, fun k hk _ => hB.block k hk, fun i k ha => .inl ⟨i, ha⟩, fun _ _ _ _ => rfl⟩
  have hd' := fun t h => (hd t h).1
  have hr' := hr.put (x := .u) (v := .pointer (some ⟨w.heap.size, 0, none⟩)) hd' (Ext.refl G S) hs' (.u _) (by simp [below_tup_eq, belows])
  have hp' := hp.put (v := .pointer (some ⟨w.heap.size, 0, none⟩)) hr.size hd' hK1
  refine hK _ _ ⟨⟨G, hr', hE, hKp.trans hK1, ⟨fun s m hs => ?_, fun s u m k hs hu he => ?_⟩⟩, hbase, fun t ht => Reg.fr_put h0 hr.size hd ht⟩
  · cases hds : isDst o.dst s with
    | true =>
      rw [hds] at hs
      simp only [cond_true, Option.some.injEq] at hs
      refine ⟨w.heap.size, z.cells, t, by rw [put_getD hr.size hd', hds]; rfl, hKp.size, heap_alloc_new _ _, by omega, fun i ha => ?_, fun o => hr.sat.m_new o⟩
      have := hr.sat.act_lt ha
      omega
    | false =>
      rw [hds] at hs
      exact hp'.is s m (by rw [hds]; exact hs)
  · have old : ∀ s m, isDst o.dst s = false → pd s = some m → (a.put o.dst (.pointer (some ⟨w.heap.size, 0, none⟩))).tmps.getD s undef ≠ .pointer (some ⟨w.heap.size, 0, none⟩) := by
      intro s m hds hs hc
      rw [put_getD hr.size hd', hds] at hc
      obtain ⟨blk, arr, ty, h1, h2, h3, _⟩ := hp.is s m hs
      have hc' : a.tmps.getD s undef = .pointer (some ⟨w.heap.size, 0, none⟩) := by simpa using hc
      rw [h1] at hc'
      simp only [Value.pointer.injEq, Option.some.injEq, Addr.mk.injEq] at hc'
      have := heap_lt h3
      omega
    have new : ∀ s, isDst o.dst s = true → (a.put o.dst (.pointer (some ⟨w.heap.size, 0, none⟩))).tmps.getD s undef = .pointer (some ⟨w.heap.size, 0, none⟩) := by
      intro s hds
      rw [put_getD hr.size hd', hds]; rfl
    cases hds : isDst o.dst s with
    | true =>
      cases hdu : isDst o.dst u with
      | true =>
        cases hdd : o.dst with
        | none => rw [hdd] at hds; cases hds
        | some d =>
          rw [hdd] at hds hdu
          rw [← Nat.eq_of_beq_eq_true hds, ← Nat.eq_of_beq_eq_true hdu]
      | false =>
        rw [hdu] at hu
        rw [new s hds] at he
        exact absurd he.symm (old u k hdu hu)
    | false =>
      rw [hds] at hs
      cases hdu : isDst o.dst u with
      | true =>
        rw [new u hdu] at he
        exact absurd he (old s m hds hs)
      | false =>
        rw [hdu] at hu
        exact hp'.inj s u m k (by rw [hds]; exact hs) (by rw [hdu]; exact hu) he

end
end Go.Abs

/-
  First stores.
-/
namespace Go.Abs
open Go Go.RowKit

section
variable {T : Tabs} {an : Ann} {X : Ctx} {G : Gst} {b N : Nat} {e : Env} {S : Store} {a : Act} {w : World} {C : CallEnv} {pd : Nat → Option Nat}
variable {G0 : Gst} {S0 : Store} {w0 : World} {e0 : Env} {a0 : Act} {wr : List Nat}

/-- A new entry over a block that nobody knows of. -/
theorem Sat.pushAt (h : Sat X G b S w) (hb : b ≤ S.length) (e : Ent) (blk : Nat) (g : Value) {z : Nat} {w' : World} (hbelow : Below X.W0.heap.size X.W0 w') (hblk : ∀ k, (∃ i, Acts G S i k) → w'.heap[k]? = w.heap[k]?)
    (him : ∀ c o v, G.M c o = some v → w'.cell? ⟨c, o, none⟩ = some v) (hok : EntOK (G.push S.length blk g z) (S ++ [e]) w' S.length e)
    (hact : ∀ c, Acts (G.push S.length blk g z) (S ++ [e]) S.length c → X.W0.heap.size ≤ c ∧ ∀ i, ¬ Acts G S i c) (hbel : entBelow (S.length + 1) e = true) :
    Sat X (G.push S.length blk g z) b (S ++ [e]) w' := by
  have hE := ext_push (G := G) hb e blk g z
  have hlast : (S ++ [e])[S.length]? = some e := by simp
  have split : ∀ i x, (S ++ [e])[i]? = some x → (i < S.length ∧ S[i]? = some x) ∨ (i = S.length ∧ x = e) := by
    intro i x hx
    rcases Nat.lt_trichotomy i S.length with hi | hi | hi
    · exact .inl ⟨hi, by rwa [List.getElem?_append_left hi] at hx⟩
    · subst hi; rw [hlast] at hx; cases hx; exact .inr ⟨rfl, rfl⟩
    · rw [List.getElem?_eq_none (by simp; omega)] at hx; cases hx
  have actcases : ∀ i c, Acts (G.push S.length blk g z) (S ++ [e]) i c → (i < S.length ∧ Acts G S i c) ∨ (i = S.length ∧ X.W0.heap.size ≤ c ∧ ∀ i, ¬ Acts G S i c) := by
    intro i c ha
    have hi := acts_lt ha
    simp at hi
    by_cases hlt : i < S.length
    · exact .inl ⟨hlt, (acts_push_old hlt).1 ha⟩
    · obtain rfl : i = S.length := by omega
      exact .inr ⟨rfl, hact c ha⟩
  refine ⟨hbelow, h.m0, him, fun i x hx => ?_, fun i j c hi hj => ?_, fun i c ha => ?_, fun i x hx => ?_⟩
  · rcases split i x hx with ⟨hi, hs⟩ | ⟨rfl, rfl⟩
    · refine (h.ent i x hs).keep hs (S' := S ++ [e]) hE (h.lowS hb hs) ?_ ?_ ?_ (fun c ha => hblk c ⟨i, ha⟩) (fun _ _ _ hm => hm)
      · simp [Gst.push, show i ≠ S.length by omega]
      · simp [Gst.push, show i ≠ S.length by omega]
      · simp [Gst.push, show i ≠ S.length by omega]
    · exact hok
  · rcases actcases i c hi with ⟨h1, h2⟩ | ⟨h1, h2, h5⟩ <;> rcases actcases j c hj with ⟨h3, h4⟩ | ⟨h3, h4, h6⟩
    · exact h.dis i j c h2 h4
    · exact absurd h2 (h6 i)
    · exact absurd h4 (h5 j)
    · omega
  · rcases actcases i c ha with ⟨_, h2⟩ | ⟨_, h2, _⟩
    · exact h.base i c h2
    · exact h2
  · rcases split i x hx with ⟨hi, hs⟩ | ⟨rfl, rfl⟩
    · have := h.bel i x hs
      split at this
      · rename_i hib; simp only [hib, if_true]; exact this
      · rename_i hib; simp only [hib, if_false]; exact entBelow_mono (by simp) this
    · have : ¬ S.length < b := by omega
      simp only [this, if_false, List.length_append, List.length_singleton]; exact hbel

/-- What a first store does to the world. -/
theorem first_store {ty n s : Nat} {v : Value} {q : AV} (hs : Sat X G b S w) (hp : Pend w0.heap.size G S a w pd) (hbase : X.W0.heap.size ≤ w0.heap.size) (ht : sizeC T ty = some n) (hv : V2 G S v q) (hnt : isTup q = false) (hq : (cellsOf q).length = n) (hpd : pd s = some n) :
    ∃ blk w' arr ty', a.tmps.getD s undef = .pointer (some ⟨blk, 0, none⟩) ∧ (Instr.storeAt ty (a.tmps.getD s undef) v).run T.P w = .ok () w' ∧ w0.heap.size ≤ blk ∧ w'.heap[blk]? = some (.cells arr ty' (0, 0)) ∧ arr.size = n ∧ (∀ j (h : j < (cellsOf q).length), V1 G S (arr.getD j undef) ((cellsOf q)[j])) ∧
      (∀ i, ¬ Acts G S i blk) ∧ (∀ o, G.M blk o = none) ∧ (∀ k, k ≠ blk → w'.heap[k]? = w.heap[k]?) ∧ w'.heap.size = w.heap.size ∧ Below X.W0.heap.size X.W0 w' ∧ (∀ t m, pd t = some m → t ≠ s → a.tmps.getD t undef ≠ .pointer (some ⟨blk, 0, none⟩)) := by
  obtain ⟨blk, arr, ty', h1, h2, h3, h4, h5, h6⟩ := hp.is s n hpd
  obtain ⟨c1, c2⟩ := cells_ok hv hnt
  obtain ⟨w', arr', e1, e2, e3, e4, e5, e6, e7, e8, e9⟩ := run_storeCells_in (P := T.P) v.cells.toList 0 0 arr w h3 (fun o _ => by omega) (by simp; omega)
    (mem_toList_getD (l := cellsOf q) c1 fun j hj => oneCell_of_V1 (c2 j hj))
  have hsz : v.cells.size = n := by omega
  refine ⟨blk, w', arr', ty', h1, ?_, h2, e2, by omega, fun j hj => ?_, h5, h6, e4, e5, ?_, fun t m htm hne hc => hne (hp.inj t s m n htm hpd (by rw [h1]; exact hc))⟩
  · rw [h1]
    simp [Instr.storeAt, Instr.sureAddr, storeVar, Sem.run_bind, run_sizeOf_C ht, hsz, e1]
  · have h9 := e9 j
    rw [if_pos (by simp; omega)] at h9
    rw [Array.getD_eq_getD_getElem?, h9]
    have := c2 j hj
    rw [Array.getD_eq_getD_getElem?] at this
    simpa using this
  · refine ⟨e6.trans hs.below.os, e7.trans hs.below.tape, e8.1.trans hs.below.output, by rw [e5]; exact hs.below.size, Nat.le_trans hs.below.drawn e8.2, fun k hk => ?_⟩
    rw [e4 k (by omega)]; exact hs.below.block k hk

theorem Reg.storeP (h : Reg X G0 S0 w0 e0 a0 b N wr e S pd a w) {o : Oper} {ty s n : Nat} {y : Operand} {q : AV} {cs : List AV} {Q : Exit → Act → World → Prop} {K : Act → World → Prop} (ho : o.op = .store ty (.tmp s) y) (hdst : o.dst = none) (hwr : s ∈ wr)
    (ht : sizeC T ty = some n) (hv : ∀ G, Rel X G b N e S a w → V2 G S (a.eval y) q) (hcs : imms (cellsOf q) = some cs) (hn : cs.length = n) (hpd : pd s = some n)
    (hK : ∀ a' w', Reg X G0 S0 w0 e0 a0 b N wr (e.put (some s) (.ip cs 0)) S (fun t => bif Nat.beq t s then none else pd t) a' w' → K a' w') : o.wp T.P a w K Q := by
  obtain ⟨⟨G, hr, hE, hKp, hp⟩, hbase, hfr⟩ := h
  have hlen := imms_length hcs
  obtain ⟨blk, w', arr, ty', f1, f2, f3, f4, f5, f6, f7, f8, f9, f10, f11, f12⟩ := first_store (T := T) hr.sat hp hbase ht (hv G hr) (not_tup_of_imms hcs) (by omega) hpd
  have hrun : (execOp a.eval o).run T.P w = .ok .skip w' := by
    have : a.eval (.tmp s) = a.tmps.getD s undef := rfl
    simp only [execOp, ho, this, Sem.run_bind, f2, Result.andThen_ok, Sem.run_pure]
  unfold Oper.wp Oper.upon
  rw [hrun, hdst]
  let G' : Gst := { G with M := fun c o => if c = blk then (if o < n then arr[o]? else none) else G.M c o }
  have hM : MLe G.M G'.M := by
    intro c o x hx
    show (if _ then _ else _) = _
    rw [if_neg]
    · exact hx
    · rintro rfl; rw [f8] at hx; cases hx
  have hne : ∀ c, c ≠ blk → ∀ o, G'.M c o = G.M c o := fun c hc o => if_neg hc
  have hE' : Ext S.length b G S G' S := ⟨hM, fun _ _ => rfl, fun _ _ k _ h => ⟨k, h, Nat.le_refl _, fun _ => rfl⟩, Nat.le_refl _, fun _ _ => rfl, fun _ _ e h => ⟨e, h, fun _ _ h => h⟩⟩
  have actne : ∀ i k, Acts G S i k → k ≠ blk := fun i k ha h => f7 i (h ▸ ha)
  have hs' : Sat X G' b S w' := by
    refine ⟨f11, hr.sat.m0.trans hM, fun c o x hx => ?_, fun i x hx => ?_, hr.sat.dis, hr.sat.base, hr.sat.bel⟩
    · by_cases hc : c = blk
      · subst hc
        have h1 : G'.M c o = (if o < n then arr[o]? else none) := if_pos rfl
        rw [h1] at hx
        split at hx
        · simp only [World.cell?, f4]; exact hx
        · cases hx
      · rw [hne c hc] at hx
        have := hr.sat.im c o x hx
        simp only [World.cell?] at *
        rw [f9 c hc]; exact this
    · exact (hr.sat.ent i x hx).keep hx hE' (hr.sat.lowS hr.hb hx) rfl rfl rfl (fun k ha => f9 k (actne i k ha)) (fun k ha o ho => by rw [hne k (actne i k ha)]; exact ho)
  refine hK _ _ ⟨⟨G', ⟨hs', hr.hb, hr.size, hr.defers, fun t => ?_, fun t => ?_⟩, hE.trans hE' hE.len, ⟨?_, fun k hk hno => ?_, hKp.act, fun k o hk hno => ?_⟩, ⟨fun t m htm => ?_, fun t u m k ht hu => ?_⟩⟩, hbase, fun t ht => ?_⟩
  · show V2 G' S (a.tmps.getD t undef) _
    rw [env_put]
    cases hst : isDst (some s) t with
    | true =>
      have := Nat.eq_of_beq_eq_true hst
      subst this
      rw [if_pos rfl, f1]
      refine .one (.v0 (V0.ip_of_row (off := 0) fun j hj => ?_))
      refine ⟨arr.getD j undef, ?_, (imm1_ok (imms_get hcs (by omega) hj) (f6 j (by omega))).mono hM⟩
      show (if _ then _ else _) = _
      rw [if_pos rfl, if_pos (by omega)]
      have : j < arr.size := by omega
      simp [Array.getD_eq_getD_getElem?, this]
    | false => simpa using (hr.env t).mono hE' (hr.bel t)
  · rw [env_put]
    split
    · simp [below]
    · exact hr.bel t
  · have := hKp.size; omega
  · rw [f9 k (by omega)]; exact hKp.blk k hk hno
  · rw [hne k (by omega)]; exact hKp.mem k o hk hno
  · cases hts : Nat.beq t s with
    | true => rw [hts] at htm; cases htm
    | false =>
      rw [hts] at htm
      have htne : t ≠ s := fun h => by subst h; simp [Nat.beq_refl] at hts
      obtain ⟨blk', arr', ty'', g1, g2, g3, g4, g5, g6⟩ := hp.is t m htm
      have hb' : blk' ≠ blk := fun h => f12 t m htm htne (h ▸ g1)
      exact ⟨blk', arr', ty'', g1, g2, by rw [f9 blk' hb']; exact g3, g4, g5, fun o => by rw [hne blk' hb']; exact g6 o⟩
  · cases hts : Nat.beq t s with
    | true => rw [hts] at ht; cases ht
    | false =>
      cases hus : Nat.beq u s with
      | true => rw [hus] at hu; cases hu
      | false =>
        rw [hts] at ht; rw [hus] at hu
        exact hp.inj t u m k ht hu
  · refine ⟨(hfr t ht).1, ?_⟩
    rw [env_put]
    have : isDst (some s) t = false := by
      simp only [isDst]; rw [Bool.eq_false_iff]; intro h2
      have := Nat.eq_of_beq_eq_true h2
      subst this; exact ht hwr
    rw [this]; exact (hfr t ht).2

theorem Reg.storeN (h : Reg X G0 S0 w0 e0 a0 b N wr e S pd a w) {o : Oper} {ty s n : Nat} {y : Operand} {q : AV} {cs : List AV} {Q : Exit → Act → World → Prop} {K : Act → World → Prop} (ho : o.op = .store ty (.tmp s) y) (hdst : o.dst = none) (hwr : s ∈ wr)
    (ht : sizeC T ty = some n) (hv : ∀ G, Rel X G b N e S a w → V2 G S (a.eval y) q ∧ below S.length q = true) (hcs : cells1 (cellsOf q) = some cs) (hn : cs.length = n) (hpd : pd s = some n)
    (hK : ∀ a' w', Reg X G0 S0 w0 e0 a0 b N wr (e.put (some s) (.ptr S.length 0)) (S ++ [.obj cs]) (fun t => bif Nat.beq t s then none else pd t) a' w' → K a' w') : o.wp T.P a w K Q := by
  obtain ⟨⟨G, hr, hE, hKp, hp⟩, hbase, hfr⟩ := h
  have hnt := not_tup_of_cells1 hcs
  obtain rfl := cells1_eq hcs
  obtain ⟨hv1, hvb⟩ := hv G hr
  obtain ⟨blk, w', arr, ty', f1, f2, f3, f4, f5, f6, f7, f8, f9, f10, f11, f12⟩ := first_store (T := T) hr.sat hp hbase ht hv1 hnt hn hpd
  have hrun : (execOp a.eval o).run T.P w = .ok .skip w' := by
    have : a.eval (.tmp s) = a.tmps.getD s undef := rfl
    simp only [execOp, ho, this, Sem.run_bind, f2, Result.andThen_ok, Sem.run_pure]
  unfold Oper.wp Oper.upon
  rw [hrun, hdst]
  have hE' := ext_push (G := G) hr.hb (.obj (cellsOf q)) blk undef arr.size
  have hβ : (G.push S.length blk undef arr.size).β S.length = blk := by simp [Gst.push]
  have actne : ∀ i k, Acts G S i k → k ≠ blk := fun i k ha h => f7 i (h ▸ ha)
  have hcb := cellsOf_below hvb
  have hs' : Sat X (G.push S.length blk undef arr.size) b (S ++ [.obj (cellsOf q)]) w' := by
    refine hr.sat.pushAt hr.hb (.obj (cellsOf q)) blk undef f11 (fun k ⟨i, ha⟩ => f9 k (actne i k ha)) (fun c o x hx => ?_) (fun _ => ?_) (fun c hc => ?_) (by simpa [entBelow] using belows_mono (Nat.le_succ _) hcb)
    · have hc : c ≠ blk := by rintro rfl; rw [f8] at hx; cases hx
      have := hr.sat.im c o x hx
      simp only [World.cell?] at *
      rw [f9 c hc]; exact this
    · exact ⟨arr, ty', (0, 0), by rw [hβ]; exact f4, by omega, fun o _ => by omega, fun j hj => (f6 j hj).mono hE' (below_all_get hcb hj), fun o => by rw [hβ]; exact f8 o, by simp [Gst.push]⟩
    · unfold Acts at hc
      simp only [List.getElem?_concat_length] at hc
      obtain ⟨_, rfl⟩ := hc
      rw [hβ]
      exact ⟨by omega, f7⟩
  have hact : ∀ i k, Acts (G.push S.length blk undef arr.size) (S ++ [.obj (cellsOf q)]) i k → Acts G S i k ∨ k = blk := by
    intro i k ha
    have hi := acts_lt ha
    simp at hi
    by_cases hlt : i < S.length
    · exact .inl ((acts_push_old hlt).1 ha)
    · obtain rfl : i = S.length := by omega
      unfold Acts at ha
      simp only [List.getElem?_concat_length] at ha
      rw [ha.2, hβ]; exact .inr rfl
  refine hK _ _ ⟨⟨_, ⟨hs', by have := hr.hb; simp; omega, hr.size, hr.defers, fun t => ?_, fun t => ?_⟩, hE.trans hE' hE.len, ⟨?_, fun k hk hno => ?_, fun i k ha => ?_, hKp.mem⟩, ⟨fun t m htm => ?_, fun t u m k ht hu => ?_⟩⟩, hbase, fun t ht => ?_⟩
  · show V2 _ _ (a.tmps.getD t undef) _
    rw [env_put]
    cases hst : isDst (some s) t with
    | true =>
      have := Nat.eq_of_beq_eq_true hst
      subst this
      rw [if_pos rfl, f1]
      have := V1.ptr (G := G.push S.length blk undef arr.size) (S := S ++ [.obj (cellsOf q)]) S.length 0
      rw [hβ] at this
      exact .one this
    | false => simpa using (hr.env t).mono hE' (hr.bel t)
  · rw [env_put]
    split
    · simp [below, blt_iff]
    · exact below_mono (by simp) _ (hr.bel t)
  · have := hKp.size; omega
  · rw [f9 k (by omega)]; exact hKp.blk k hk hno
  · rcases hact i k ha with h | rfl
    · exact hKp.act i k h
    · exact .inr f3
  · cases hts : Nat.beq t s with
    | true => rw [hts] at htm; cases htm
    | false =>
      rw [hts] at htm
      have htne : t ≠ s := fun h => by subst h; simp [Nat.beq_refl] at hts
      obtain ⟨blk', arr', ty'', g1, g2, g3, g4, g5, g6⟩ := hp.is t m htm
      have hb' : blk' ≠ blk := fun h => f12 t m htm htne (h ▸ g1)
      refine ⟨blk', arr', ty'', g1, g2, by rw [f9 blk' hb']; exact g3, g4, fun i ha => ?_, g6⟩
      rcases hact i blk' ha with h | h
      · exact g5 i h
      · exact hb' h
  · cases hts : Nat.beq t s with
    | true => rw [hts] at ht; cases ht
    | false =>
      cases hus : Nat.beq u s with
      | true => rw [hus] at hu; cases hu
      | false =>
        rw [hts] at ht; rw [hus] at hu
        exact hp.inj t u m k ht hu
  · refine ⟨(hfr t ht).1, ?_⟩
    rw [env_put]
    have : isDst (some s) t = false := by
      simp only [isDst]; rw [Bool.eq_false_iff]; intro h2
      have := Nat.eq_of_beq_eq_true h2
      subst this; exact ht hwr
    rw [this]; exact (hfr t ht).2

end
end Go.Abs

/-
  One operation, whichever it is, with its guard.
-/
namespace Go.Abs
open Go Go.RowKit

section
variable {T : Tabs} {an : Ann} {X : Ctx} {G : Gst} {b N : Nat} {e : Env} {S : Store} {a : Act} {w : World} {C : CallEnv} {pd : Nat → Option Nat}
variable {G0 : Gst} {S0 : Store} {w0 : World} {e0 : Env} {a0 : Act} {wr : List Nat}

def AllP (o : Option SOp) : Prop := ∀ s, o = some s → plainS s = true
theorem AllP.bind {α : Type} {x : Option α} {f : α → Option SOp} (h : ∀ y, AllP (f y)) : AllP (x.bind f) := by
  intro s hs
  obtain ⟨y, _, h2⟩ := Option.bind_eq_some_iff.1 hs
  exact h y s h2
theorem AllP.none : AllP Option.none := fun _ h => by cases h
theorem AllP.some {s : SOp} (h : plainS s = true) : AllP (some s) := fun _ h2 => by cases h2; exact h
theorem AllP.bif {c : Bool} {x y : Option SOp} (h1 : AllP x) (h2 : AllP y) : AllP (bif c then x else y) := by cases c <;> assumption

theorem plain_of {dst : Option Nat} {op : Op} (h1 : ∀ t, op ≠ .alloc t) (h2 : ∀ t a v, op ≠ .store t a v) : AllP (opC T an dst op) := by
  cases op
  case alloc t => exact absurd rfl (h1 t)
  case store t a v => exact absurd rfl (h2 t a v)
  case makeFunc fn first cs =>
    cases fn
    case func f =>
      show AllP (bif first.isEmpty then (opdsC T cs.toList).bind fun cs => some (.mkclo f cs) else none)
      exact AllP.bif (AllP.bind fun _ => AllP.some rfl) AllP.none
    all_goals exact AllP.none
  case makeMap t r =>
    cases r with
    | none => exact AllP.some rfl
    | some r => exact AllP.none
  all_goals
    first
      | (simp only [opC]
         repeat' first
           | exact AllP.none
           | exact AllP.some rfl
           | apply AllP.bif
           | (apply AllP.bind; intro _)
           | (unfold callC)
           | split
           | (refine AllP.some ?_; split <;> first | rfl | (split <;> rfl))
           | (refine AllP.some ?_; cases (dst.map an.wr.contains).getD false <;> rfl)
           | (refine AllP.some ?_; cases (dst.map an.li.contains).getD false <;> rfl)
           | (refine AllP.some ?_; generalize an.pur.contains _ = c; cases c <;> rfl))
      | skip
  done


theorem runOp_some {o : SOper} {e : Env} {S : Store} {pd : Nat → Option Nat} {r : Env × Store × (Nat → Option Nat)} (h : runOp C b o (fun e S => some (e, S, pd)) e S = some r) : r.2.2 = pd := by
  obtain ⟨e', S', h1, _⟩ := runOp_fact (A := fun _ => C) (fun f args S r hr => ⟨0, fun _ _ => hr⟩) b o e S _ r h
  cases h1; rfl

/-- As a pair. -/
theorem evalK_pair {s : SOp} {ρ : Type} {K : AV → Store → Option ρ} {r : ρ} (h : evalK C b s e S K = some r) : ∃ x S', evalK C b s e S (fun v S' => some (v, S')) = some (x, S') ∧ K x S' = some r := by
  obtain ⟨v, S', h1, h2, _⟩ := evalK_fact (A := fun _ => C) (fun f args S r hr => ⟨0, fun _ _ => hr⟩) b s e S K r h
  exact ⟨v, S', h2 _, h1⟩

theorem ghK_pair {g : Gh} {v : AV} {ρ : Type} {K : AV → Store → Option ρ} {r : ρ} (h : ghK g v S K = some r) : ∃ x S', ghK g v S (fun v S' => some (v, S')) = some (x, S') ∧ K x S' = some r := by
  obtain ⟨v, S', h1, h2⟩ := ghK_fact g v S K r h
  exact ⟨v, S', h2 _, h1⟩

theorem opS_cases (dst : Option Nat) (op : Op) : opS T an dst op = (opC T an dst op).getD .fail ∨ ∃ g, dst ≠ none ∧ opS T an dst op = .post ((opC T an dst op).getD .fail) g := by
  cases dst with
  | none => exact .inl rfl
  | some d =>
    unfold opS
    simp only
    split
    · exact .inr ⟨_, by simp, rfl⟩
    · split
      · exact .inr ⟨_, by simp, rfl⟩
      · cases an.dis.contains d with
        | true => exact .inr ⟨_, by simp, rfl⟩
        | false =>
          cases an.frz.contains d with
          | true => exact .inr ⟨_, by simp, rfl⟩
          | false => exact .inl rfl

/-- What is read of an operation, with what becomes of its result. -/
theorem op_full (B : Base T X C) (hr : Rel X G b N e S a w) {o : Oper} {x : AV} {S' : Store} (hk : ∀ s, opC T an o.dst o.op = some s → plainS s = true)
    (hev : evalK C b (opS T an o.dst o.op) e S (fun v S' => some (v, S')) = some (x, S')) : Yields T.P a.eval o w (OpOK X G b S w x S') := by
  have base : ∀ {x S'}, evalK C b ((opC T an o.dst o.op).getD .fail) e S (fun v S' => some (v, S')) = some (x, S') → Yields T.P a.eval o w (OpOK X G b S w x S') := by
    intro x S' h
    cases hc : opC T an o.dst o.op with
    | none => rw [hc] at h; simp [evalK] at h
    | some s => rw [hc] at h; exact op_plain B hr hc (hk s hc) h
  have post : ∀ {g : Gh} {x S'}, evalK C b (.post ((opC T an o.dst o.op).getD .fail) g) e S (fun v S' => some (v, S')) = some (x, S') → Yields T.P a.eval o w (OpOK X G b S w x S') := by
    intro g x S' h
    simp only [evalK] at h
    obtain ⟨y, S1, h1, h2⟩ := evalK_pair h
    refine (base h1).mono fun v w' ⟨G1, e1, e2, e3, e4, e5⟩ => ?_
    exact (op_gh e3 (Nat.le_trans hr.hb e1.len) e4 e5 h2).after e1 e2
  rcases opS_cases (T := T) (an := an) o.dst o.op with h | ⟨g, _, h⟩
  · rw [h] at hev; exact base hev
  · rw [h] at hev; exact post hev

theorem opS_none {dst : Option Nat} {op : Op} (h : dst = none) : opS T an dst op = (opC T an dst op).getD .fail := by
  subst h; rfl

/-- Is it one of those that wait or end the waiting? -/
def pendS : SOp → Bool
  | .allocP _ | .storeP .. | .storeN .. => true
  | _ => false

theorem pdStep_plain {o : SOper} (h : pendS o.op = false) : pdStep o pd = some fun t => bif isDst o.dst t then none else pd t := by
  unfold pdStep
  cases ho : o.op <;> first | rfl | (rw [ho] at h; cases h)

theorem to_plain {o : SOper} (h : pendS o.op = false) : o.to = o.dst := by
  unfold SOper.to
  cases ho : o.op <;> first | rfl | (rw [ho] at h; cases h)

theorem opS_pend {dst : Option Nat} {op : Op} (h : pendS (opS T an dst op) = true) : opC T an dst op = some (opS T an dst op) := by
  rcases opS_cases (T := T) (an := an) dst op with h1 | ⟨g, _, h1⟩
  · rw [h1]
    rw [h1] at h
    cases hc : opC T an dst op with
    | none => rw [hc] at h; cases h
    | some s => rfl
  · rw [h1] at h; cases h

theorem bool_slot (hr : Rel X G b N e S a w) {t : Nat} {c : Bool} (h : e.get t = .bool c) : a.tmps[t]? = some (.bool c) := by
  have := hr.env t
  rw [show e t = .bool c from h] at this
  have := this.bool_inv
  rw [Array.getD_eq_getD_getElem?] at this
  cases h : a.tmps[t]? with
  | none => rw [h] at this; cases this
  | some v => rw [h] at this; simp at this; rw [this]

/-- A result that may not be turned: it is no row. -/
theorem ghK_u {g : Gh} {r : AV × Store} (h : ghK g .u S (fun v S' => some (v, S')) = some r) : False := by
  cases g <;> simp only [ghK, Option.bind_eq_some_iff] at h <;> obtain ⟨x, h1, _⟩ := h <;> cases h1

theorem opC_alloc {dst : Option Nat} {t : Nat} {s : SOp} (h : opC T an dst (.alloc t) = some s) : (∃ n i z, s = .allocP n ∧ T.P.info? t = some i ∧ i.zero = some z ∧ z.cells.size = n) ∨ plainS s = true := by
  simp only [opC] at h
  cases hp : (dst.map fun d => an.pub.contains d || an.pbm.contains d).getD false with
  | true =>
    rw [hp] at h
    simp only [cond_true, Option.bind_eq_some_iff] at h
    obtain ⟨i, h1, z, h2, h⟩ := h
    cases h
    exact .inl ⟨_, i, z, rfl, h1, h2, rfl⟩
  | false =>
    rw [hp] at h
    simp only [cond_false, Option.bind_eq_some_iff] at h
    obtain ⟨z, h1, n, h2, h⟩ := h
    obtain ⟨_, h⟩ := bif_some h
    cases h; exact .inr rfl

theorem opC_store {dst : Option Nat} {t : Nat} {ad v : Operand} {s : SOp} (h : opC T an dst (.store t ad v) = some s) :
    (∃ n sl y, ad = .tmp sl ∧ sizeC T t = some n ∧ opdC T v = some y ∧ (s = .storeP n sl y ∨ s = .storeN n sl y)) ∨ plainS s = true := by
  simp only [opC, Option.bind_eq_some_iff] at h
  obtain ⟨n, h1, y, h2, h⟩ := h
  split at h
  · rename_i sl
    cases h
    cases an.pub.contains sl with
    | true => exact .inl ⟨n, sl, y, rfl, h1, h2, .inl rfl⟩
    | false =>
      cases an.pbm.contains sl with
      | true => exact .inl ⟨n, sl, y, rfl, h1, h2, .inr rfl⟩
      | false => exact .inr rfl
  · cases h

/-- ████ One operation of a region. -/
theorem step_ok (B : Base T X C) {ops : Array Oper} {o : Oper} {s' : Env × Store × (Nat → Option Nat)} {Q : Exit → Act → World → Prop} {K : Act → World → Prop} (h : Reg X G0 S0 w0 e0 a0 b N wr e S pd a w)
    (hwr : ∀ t ∈ (operC T an ops o).outs, t < N ∧ t ∈ wr) (hst : stepO C b (operC T an ops o) (e, S, pd) = some s')
    (hK : ∀ a' w', Reg X G0 S0 w0 e0 a0 b N wr s'.1 s'.2.1 s'.2.2 a' w' → K a' w') : wpOne T.P ops Q o K a w := by
  simp only [stepO, Option.bind_eq_some_iff] at hst
  obtain ⟨pd', hpd, hrun⟩ := hst
  have hpe := runOp_some hrun
  obtain ⟨e', S', pd''⟩ := s'
  simp only at hpe hK
  subst hpe
  have hdst : (operC T an ops o).dst = o.dst := by
    unfold operC; cases o.guard with
    | none => rfl
    | some g => obtain ⟨j, c⟩ := g; simp only; cases (ops[j]?).bind (·.dst) <;> rfl
  have hdN : ∀ t, o.dst = some t → t < N ∧ t ∈ wr := fun t ht => hwr t (by simp [SOper.outs, hdst, ht])
  -- the plain case, whatever the guard
  have plain : ∀ {x S1}, (∀ s, opC T an o.dst o.op = some s → plainS s = true) → evalK C b (opS T an o.dst o.op) e S (fun v S' => some (v, S')) = some (x, S1) →
      (∀ a' w', Reg X G0 S0 w0 e0 a0 b N wr (e.put o.dst x) S1 (fun t => bif isDst o.dst t then none else pd t) a' w' → K a' w') → o.wp T.P a w K Q := by
    intro x S1 hk hev hK
    exact h.yield hdN (fun G hr => op_full B hr hk hev) hK
  have notpend : pendS (opS T an o.dst o.op) = false → (∃ x S1, evalK C b (opS T an o.dst o.op) e S (fun v S' => some (v, S')) = some (x, S1)) → ∀ s, opC T an o.dst o.op = some s → plainS s = true := by
    intro hnp ⟨x, S1, hev⟩ s hs
    rcases opS_cases (T := T) (an := an) o.dst o.op with h1 | ⟨g, hdn, h1⟩
    · rw [h1, hs, Option.getD_some] at hnp
      by_cases ha : ∃ t, o.op = .alloc t
      · obtain ⟨t, ha⟩ := ha
        rw [ha] at hs
        rcases opC_alloc hs with ⟨n, i, z, rfl, _⟩ | hp
        · cases hnp
        · exact hp
      · by_cases hb : ∃ t ad v, o.op = .store t ad v
        · obtain ⟨t, ad, v, hb⟩ := hb
          rw [hb] at hs
          rcases opC_store hs with ⟨n, sl, y, _, _, _, rfl | rfl⟩ | hp
          · cases hnp
          · cases hnp
          · exact hp
        · exact plain_of (fun t ht => ha ⟨t, ht⟩) (fun t ad v ht => hb ⟨t, ad, v, ht⟩) s hs
    · rw [h1, hs, Option.getD_some] at hev
      simp only [evalK] at hev
      by_cases ha : ∃ t, o.op = .alloc t
      · obtain ⟨t, ha⟩ := ha
        rw [ha] at hs
        rcases opC_alloc hs with ⟨n, i, z, rfl, _⟩ | hp
        · simp only [evalK] at hev; exact (ghK_u hev).elim
        · exact hp
      · by_cases hb : ∃ t ad v, o.op = .store t ad v
        · obtain ⟨t, ad, v, hb⟩ := hb
          rw [hb] at hs
          rcases opC_store hs with ⟨n, sl, y, _, _, _, rfl | rfl⟩ | hp
          · exfalso
            simp only [evalK, Option.bind_eq_some_iff] at hev
            obtain ⟨cs, _, hev⟩ := hev
            split at hev
            · cases g <;> simp only [ghK, Option.bind_eq_some_iff] at hev <;> obtain ⟨x, h1, _⟩ := hev <;> cases h1
            · cases hev
          · exfalso
            simp only [evalK, Option.bind_eq_some_iff] at hev
            obtain ⟨cs, _, hev⟩ := hev
            split at hev
            · cases g <;> simp only [ghK, Option.bind_eq_some_iff] at hev <;> obtain ⟨x, h1, _⟩ := hev <;> cases h1
            · cases hev
          · exact hp
        · exact plain_of (fun t ht => ha ⟨t, ht⟩) (fun t ad v ht => hb ⟨t, ad, v, ht⟩) s hs
  unfold wpOne
  cases hg : o.guard with
  | none =>
    have hop : operC T an ops o = { dst := o.dst, op := opS T an o.dst o.op, guard := none } := by unfold operC; rw [hg]
    rw [hop] at hpd hrun hwr
    rw [if_pos (by simp [Region.wanted, hg])]
    refine .inl ?_
    simp only [runOp] at hrun
    obtain ⟨x, S1, hev, hk⟩ := evalK_pair hrun
    simp only [Option.some.injEq, Prod.mk.injEq] at hk
    obtain ⟨rfl, rfl, _⟩ := hk
    cases hpS : pendS (opS T an o.dst o.op) with
    | false =>
      rw [pdStep_plain (by exact hpS)] at hpd
      cases hpd
      rw [to_plain (by exact hpS)] at hK
      exact plain (notpend hpS ⟨_, _, hev⟩) hev hK
    | true =>
      have hc := opS_pend hpS
      generalize hsE : opS T an o.dst o.op = s at *
      cases s <;> first | (cases hpS; done) | skip
      case allocP n =>
        have ha : ∃ t, o.op = .alloc t := by
          by_cases ha : ∃ t, o.op = .alloc t
          · exact ha
          · by_cases hb : ∃ t ad v, o.op = .store t ad v
            · obtain ⟨t, ad, v, hb⟩ := hb
              rw [hb] at hc
              rcases opC_store hc with ⟨_, _, _, _, _, _, h1 | h1⟩ | h1 <;> cases h1
            · have := plain_of (fun t ht => ha ⟨t, ht⟩) (fun t ad v ht => hb ⟨t, ad, v, ht⟩) _ hc
              cases this
        obtain ⟨t, ha⟩ := ha
        rw [ha] at hc
        rcases opC_alloc hc with ⟨n', i, z, h1, h2, h3, h4⟩ | h1
        · cases h1
          simp only [pdStep, Option.isNone_none, cond_true, Option.some.injEq] at hpd
          subst hpd
          simp only [evalK, Option.some.injEq, Prod.mk.injEq] at hev
          obtain ⟨rfl, rfl⟩ := hev
          exact h.allocP hdN ha h2 h3 h4 hK
        · cases h1
      all_goals
        have hb : ∃ t ad v, o.op = .store t ad v := by
          by_cases hb : ∃ t ad v, o.op = .store t ad v
          · exact hb
          · by_cases ha : ∃ t, o.op = .alloc t
            · obtain ⟨t, ha⟩ := ha
              rw [ha] at hc
              rcases opC_alloc hc with ⟨_, _, _, h1, _⟩ | h1 <;> cases h1
            · have := plain_of (fun t ht => ha ⟨t, ht⟩) (fun t ad v ht => hb ⟨t, ad, v, ht⟩) _ hc
              cases this
        obtain ⟨t, ad, v, hb⟩ := hb
        rw [hb] at hc
        rcases opC_store hc with ⟨n', sl, y, rfl, h2, h3, h1 | h1⟩ | h1 <;> cases h1
        simp only [pdStep] at hpd
        obtain ⟨hcc, hpd⟩ := bif_some hpd
        cases hpd
        simp only [Bool.and_eq_true, Option.isNone_iff_eq_none] at hcc
        have hpn : ∀ {m k : Nat}, hasN (pd m) k = true → pd m = some k := by
          intro m k hm
          cases hpm : pd m with
          | none => rw [hpm] at hm; cases hm
          | some q => rw [hpm] at hm; rw [Nat.eq_of_beq_eq_true hm]
      · simp only [evalK, Option.bind_eq_some_iff] at hev
        obtain ⟨cs, h4, h5⟩ := hev
        split at h5
        · rename_i hn
          cases h5
          exact h.storeP hb hcc.2 (hwr _ (by simp [SOper.outs, SOper.to])).2 h2 (fun G hr => (opd_ok B.glob hr h3).1) h4 hn (hpn hcc.1.1) hK
        · cases h5
      · simp only [evalK, Option.bind_eq_some_iff] at hev
        obtain ⟨cs, h4, h5⟩ := hev
        split at h5
        · rename_i hn
          cases h5
          exact h.storeN hb hcc.2 (hwr _ (by simp [SOper.outs, SOper.to])).2 h2 (fun G hr => opd_ok B.glob hr h3) h4 hn (hpn hcc.1.1) hK
        · cases h5
  | some g =>
    obtain ⟨j, want⟩ := g
    cases hj : (ops[j]?).bind (·.dst) with
    | none =>
      have hop : operC T an ops o = { dst := o.dst, op := .fail, guard := none } := by unfold operC; rw [hg]; simp only [hj]
      rw [hop] at hrun
      simp [runOp, evalK] at hrun
    | some d =>
      have hop : operC T an ops o = { dst := o.dst, op := opS T an o.dst o.op, guard := some (d, want) } := by unfold operC; rw [hg]; simp only [hj]
      rw [hop] at hpd hrun
      simp only [runOp, Option.bind_eq_some_iff] at hrun
      obtain ⟨r, hgk, hk⟩ := hrun
      cases hk
      have hnp : pendS (opS T an o.dst o.op) = false := by
        cases hpS : pendS (opS T an o.dst o.op) with
        | false => rfl
        | true =>
          exfalso
          generalize opS T an o.dst o.op = s at *
          cases s <;> first | (cases hpS; done) | (simp [pdStep] at hpd)
      rw [pdStep_plain (by exact hnp)] at hpd
      cases hpd
      rw [to_plain (by exact hnp)] at hK
      obtain ⟨G, hr, _⟩ := h.ex
      cases hc : e.get d with
      | bool c =>
        have hsl := bool_slot hr hc
        have hy : yielded ops a.tmps j = some c := by unfold yielded; rw [hj]; simp [hsl]
        rw [hc] at hgk
        simp only [guardK] at hgk
        split at hgk
        · rename_i hcw
          rw [if_pos (by simp [Region.wanted, hg, hy, hcw])]
          exact .inl (plain (notpend hnp ⟨_, _, hgk⟩) hgk hK)
        · rename_i hcw
          cases hgk
          rw [if_neg (by simp [Region.wanted, hg, hy, hcw])]
          exact hK _ _ (h.skip hdN)
      | und =>
        have hsl : a.tmps.getD d undef = undef := by
          have := hr.env d
          rw [show e d = .und from hc] at this
          exact this.und_inv
        have hy : yielded ops a.tmps j = none := by
          unfold yielded
          rw [hj]
          simp only [Option.bind_some]
          rw [Array.getD_eq_getD_getElem?] at hsl
          cases ht : a.tmps[d]? with
          | none => rfl
          | some v => rw [ht] at hsl; simp only [Option.getD_some] at hsl; subst hsl; rfl
        rw [hc] at hgk
        simp only [guardK] at hgk
        cases hgk
        rw [if_neg (by simp [Region.wanted, hg, hy])]
        exact hK _ _ (h.skip hdN)
      | _ => rw [hc] at hgk; simp [guardK] at hgk

end
end Go.Abs

/-
  Operations that may stand in either order.
-/
namespace Go.Abs
open Go Go.RowKit

section
variable {b : Nat} {e e' : Env} {S : Store} {C : CallEnv} {pd : Nat → Option Nat}

/-- What an operation yields, its guard looked at. -/
noncomputable def valO (C : CallEnv) (b : Nat) (o : SOper) (e : Env) (S : Store) : Option (AV × Store) :=
  match o.guard with
  | none => evalK C b o.op e S fun v S' => some (v, S')
  | some (g, want) => guardK (e.get g) want (evalK C b o.op e S fun v S' => some (v, S')) (some (.und, S))

theorem runOp_val {o : SOper} {ρ : Type} {K : Env → Store → Option ρ} {r : ρ} : runOp C b o K e S = some r ↔ ∃ v S', valO C b o e S = some (v, S') ∧ K (e.put o.to v) S' = some r := by
  unfold runOp valO
  cases o.guard with
  | none =>
    simp only
    constructor
    · intro h; exact evalK_pair h
    · rintro ⟨v, S', h1, h2⟩
      obtain ⟨x, S1, h3, h4, _⟩ := evalK_fact (A := fun _ => C) (fun f args S r hr => ⟨0, fun _ _ => hr⟩) b o.op e S _ _ h1
      cases h3
      rw [h4]; exact h2
  | some g =>
    obtain ⟨g, want⟩ := g
    simp only [Option.bind_eq_some_iff]
    constructor
    · rintro ⟨r', h1, h2⟩; exact ⟨r'.1, r'.2, h1, h2⟩
    · rintro ⟨v, S', h1, h2⟩; exact ⟨(v, S'), h1, h2⟩

/-! what is looked at -/

theorem opd_agree {x : Opd} (h : ∀ t ∈ opdSlots x, e t = e' t) : x.ev e = x.ev e' := by
  cases x with
  | tmp t => exact h t (by simp [opdSlots])
  | const a => rfl

theorem opds_agree {l : List Opd} (h : ∀ t ∈ opdsSlots l, e t = e' t) : opds e l = opds e' l := by
  induction l with
  | nil => rfl
  | cons x l ih =>
    simp only [opdsSlots, List.flatMap_cons, List.mem_append] at h
    simp only [opds]
    rw [opd_agree fun t ht => h t (.inl ht), ih fun t ht => h t (.inr ht)]

theorem opdo_agree {x : Option Opd} (h : ∀ t ∈ opdoSlots x, e t = e' t) : x.map (·.ev e) = x.map (·.ev e') := by
  cases x with
  | none => rfl
  | some x => simp only [Option.map_some]; rw [opd_agree h]

theorem parts_agree {l : List (Nat × Nat × Opd)} (h : ∀ t ∈ (l.flatMap fun p => opdSlots p.2.2), e t = e' t) : partsE e l = partsE e' l := by
  induction l with
  | nil => rfl
  | cons p l ih =>
    obtain ⟨o, n, x⟩ := p
    simp only [List.flatMap_cons, List.mem_append] at h
    simp only [partsE]
    rw [opd_agree fun t ht => h t (.inl ht), ih fun t ht => h t (.inr ht)]

theorem elems_agree {l : List (Opd ⊕ List AV)} (h : ∀ t ∈ (l.flatMap fun (y : Opd ⊕ List AV) => match y with | .inl x => opdSlots x | .inr _ => []), e t = e' t) : elemsE e l = elemsE e' l := by
  induction l with
  | nil => rfl
  | cons p l ih =>
    simp only [List.flatMap_cons, List.mem_append] at h
    cases p with
    | inl x =>
      simp only [elemsE]
      rw [opd_agree fun t ht => h t (.inl ht), ih fun t ht => h t (.inr ht)]
    | inr cs =>
      simp only [elemsE]
      rw [ih fun t ht => h t (.inr ht)]

theorem gets_agree {l : List Nat} (h : ∀ t ∈ l, e t = e' t) : e.gets l = e'.gets l := by
  unfold Env.gets Env.get
  exact List.map_congr_left h

theorem evalK_agree {o : SOp} {ρ : Type} {K : AV → Store → Option ρ} (h : ∀ t ∈ sreads o, e t = e' t) : evalK C b o e S K = evalK C b o e' S K := by
  induction o generalizing K S ρ with
  | post o g ih => simp only [evalK, sreads] at *; exact ih h
  | mv x => simp only [evalK, sreads] at *; rw [opd_agree h]
  | pick c x y =>
    simp only [evalK, sreads, List.mem_append] at *
    rw [opd_agree fun t ht => h t (.inl ht), opd_agree (x := x) fun t ht => h t (.inr (.inl ht)), opd_agree (x := y) fun t ht => h t (.inr (.inr ht))]
  | alloc | allocP | makeMap | fail => rfl
  | un _ x | conv _ x | boxP x | boxM x | load _ x | loadI _ x | nilc x | fieldA _ x | field _ _ x | len x | lenS x | lenM x | toBytes x | ofBytes x | ofInt x | extract x _ | mtail _ x | range x | entry x =>
    simp only [evalK, sreads] at *; rw [opd_agree h]
  | bin _ x y | binB _ x y | indexS x y | eqc _ _ x y | store _ x y | indexA _ _ x y | index _ _ _ x y | append _ x y | appendM _ x y | mslice _ x y | lookup _ _ _ x y _ | mapEntry _ _ _ x y =>
    simp only [evalK, sreads, List.mem_append] at *
    rw [opd_agree (x := x) fun t ht => h t (.inl ht), opd_agree (x := y) fun t ht => h t (.inr ht)]
  | build _ ps => simp only [evalK, sreads] at *; rw [parts_agree h]
  | bslice _ es | bsliceM _ es => simp only [evalK, sreads] at *; rw [elems_agree h]
  | loadR _ x r =>
    simp only [evalK, sreads, List.mem_append, List.mem_singleton] at *
    rw [opd_agree (x := x) fun t ht => h t (.inl ht)]
    have : e.get r = e'.get r := h r (.inr rfl)
    rw [this]
  | storeP _ s x | storeN _ s x =>
    simp only [evalK, sreads, List.mem_cons] at *
    rw [opd_agree (x := x) fun t ht => h t (.inr ht)]
  | slice _ x l hh m =>
    simp only [evalK, sreads, List.mem_append] at *
    rw [opd_agree (x := x) fun t ht => h t (.inl ht), opdo_agree (x := l) fun t ht => h t (.inr (.inl ht)), opdo_agree (x := hh) fun t ht => h t (.inr (.inr (.inl ht))), opdo_agree (x := m) fun t ht => h t (.inr (.inr (.inr ht)))]
  | sliceS x l hh | sliceA _ _ x l hh =>
    simp only [evalK, sreads, List.mem_append] at *
    rw [opd_agree (x := x) fun t ht => h t (.inl ht), opdo_agree (x := l) fun t ht => h t (.inr (.inl ht)), opdo_agree (x := hh) fun t ht => h t (.inr (.inr ht))]
  | mkclo _ xs | call _ xs | callP _ xs | minmax _ xs => simp only [evalK, sreads] at *; rw [opds_agree h]
  | callO _ xs av =>
    simp only [evalK, sreads, List.mem_append] at *
    rw [opds_agree (l := xs) fun t ht => h t (.inl ht), gets_agree (l := av) fun t ht => h t (.inr ht)]
  | callV f xs =>
    simp only [evalK, sreads, List.mem_append] at *
    rw [opd_agree (x := f) fun t ht => h t (.inl ht), opds_agree (l := xs) fun t ht => h t (.inr ht)]
  | mapSet _ _ m k v | entryStore m k v =>
    simp only [evalK, sreads, List.mem_append] at *
    rw [opd_agree (x := m) fun t ht => h t (.inl ht), opd_agree (x := k) fun t ht => h t (.inr (.inl ht)), opd_agree (x := v) fun t ht => h t (.inr (.inr ht))]

theorem valO_agree {o : SOper} (h : ∀ t ∈ looksS o, e t = e' t) : valO C b o e S = valO C b o e' S := by
  unfold valO
  have h1 : ∀ t ∈ sreads o.op, e t = e' t := fun t ht => h t (by simp [looksS, ht])
  rw [evalK_agree h1]
  cases hg : o.guard with
  | none => rfl
  | some g =>
    obtain ⟨g, w⟩ := g
    have : e.get g = e'.get g := h g (by simp [looksS, hg])
    simp only [this]

/-! what leaves the store alone -/

theorem evalK_quiet {o : SOp} (h : quietB o = true) : ∃ q : Env → Option AV, ∀ (e : Env) (S : Store) {ρ : Type} (K : AV → Store → Option ρ), evalK C b o e S K = (q e).bind fun v => K v S := by
  induction o with
  | post o g ih =>
    cases g with
    | disown =>
      obtain ⟨q, hq⟩ := ih h
      exact ⟨fun e => (q e).bind disownV, fun e S ρ K => by simp only [evalK, hq, ghK, Option.bind_assoc]⟩
    | _ => cases h
  | mv x => exact ⟨fun e => some (x.ev e), fun e S ρ K => rfl⟩
  | allocP n => exact ⟨fun e => some .u, fun e S ρ K => rfl⟩
  | fail => exact ⟨fun e => none, fun e S ρ K => rfl⟩
  | storeP n t v => exact ⟨fun e => (imms (cellsOf (v.ev e))).bind fun cs => if cs.length = n then some (.ip cs 0) else none, fun e S ρ K => by
      simp only [evalK, Option.bind_assoc]
      congr 1; funext cs
      split <;> rfl⟩
  | boxP x => exact ⟨fun e => (imms (cellsOf (x.ev e))).bind fun cs => some (.ip cs 0), fun e S ρ K => by simp only [evalK, Option.bind_assoc, Option.bind_some]⟩
  | mkclo f xs => exact ⟨fun e => (cells1 (opds e xs)).bind fun cs => some (.clo f cs), fun e S ρ K => by simp only [evalK, Option.bind_assoc, Option.bind_some]⟩
  | pick c x y => exact ⟨fun e => pickV (c.ev e) (x.ev e) (y.ev e), fun e S ρ K => rfl⟩
  | bin op x y => exact ⟨fun e => binV op (x.ev e) (y.ev e), fun e S ρ K => rfl⟩
  | binB op x y => exact ⟨fun e => binBV op (x.ev e) (y.ev e), fun e S ρ K => rfl⟩
  | indexS x y => exact ⟨fun e => indexSV (x.ev e) (y.ev e), fun e S ρ K => rfl⟩
  | lenS x => exact ⟨fun e => lenSV (x.ev e), fun e S ρ K => rfl⟩
  | sliceS x l k => exact ⟨fun e => sliceSV (x.ev e) (l.map (·.ev e)) (k.map (·.ev e)), fun e S ρ K => rfl⟩
  | eqc n k x y => exact ⟨fun e => eqcV n k (x.ev e) (y.ev e), fun e S ρ K => rfl⟩
  | un op x => exact ⟨fun e => unV op (x.ev e), fun e S ρ K => rfl⟩
  | conv k x => exact ⟨fun e => convV k (x.ev e), fun e S ρ K => rfl⟩
  | build z ps => exact ⟨fun e => buildV z (partsE e ps), fun e S ρ K => rfl⟩
  | bslice sz es => exact ⟨fun e => bsliceV sz (elemsE e es), fun e S ρ K => rfl⟩
  | loadI n x => exact ⟨fun e => loadIV n (x.ev e), fun e S ρ K => rfl⟩
  | len x => exact ⟨fun e => lenV (x.ev e), fun e S ρ K => rfl⟩
  | nilc x => exact ⟨fun e => nilcV (x.ev e), fun e S ρ K => rfl⟩
  | slice sz x l k m => exact ⟨fun e => sliceV sz (x.ev e) (l.map (·.ev e)) (k.map (·.ev e)) (m.map (·.ev e)), fun e S ρ K => rfl⟩
  | fieldA f x => exact ⟨fun e => fieldAV f (x.ev e), fun e S ρ K => rfl⟩
  | field f n x => exact ⟨fun e => fieldV f n (x.ev e), fun e S ρ K => rfl⟩
  | indexA sz arr x i => exact ⟨fun e => indexAV sz arr (x.ev e) (i.ev e), fun e S ρ K => rfl⟩
  | index sz l g x i => exact ⟨fun e => indexV sz l g (x.ev e) (i.ev e), fun e S ρ K => rfl⟩
  | extract x i => exact ⟨fun e => extractV (x.ev e) i, fun e S ρ K => rfl⟩
  | minmax m xs => exact ⟨fun e => minmaxV m (opds e xs), fun e S ρ K => rfl⟩
  | ofInt x => exact ⟨fun e => ofIntV (x.ev e), fun e S ρ K => rfl⟩
  | _ => cases h

theorem evalK_read {o : SOp} (h : readB o = true) : ∀ {x : AV} {S' : Store}, evalK C b o e S (fun v S' => some (v, S')) = some (x, S') → S' = S := by
  have quiet : ∀ {o : SOp} {x : AV} {S' : Store}, quietB o = true → evalK C b o e S (fun v S' => some (v, S')) = some (x, S') → S' = S := by
    intro o x S' hq hev
    obtain ⟨q, hq⟩ := evalK_quiet (C := C) (b := b) hq
    rw [hq] at hev
    exact (bind_pair hev).2
  induction o with
  | post o g ih =>
    cases g with
    | disown =>
      intro x S' hev
      simp only [evalK] at hev
      obtain ⟨y, S1, h1, h2⟩ := evalK_pair hev
      have := ih h h1
      subst this
      simp only [ghK] at h2
      exact (bind_pair h2).2
    | _ => exact fun {x S'} hev => by cases h
  | load n a => intro x S' hev; simp only [evalK] at hev; exact (bind_pair hev).2
  | loadR n a r => intro x S' hev; simp only [evalK] at hev; exact (bind_pair hev).2
  | lenM a => intro x S' hev; simp only [evalK] at hev; exact (bind_pair hev).2
  | ofBytes a => intro x S' hev; simp only [evalK] at hev; exact (bind_pair hev).2
  | lookup z ag ks m k ok => intro x S' hev; simp only [evalK] at hev; exact (bind_pair hev).2
  | sliceA sz n y l k => intro x S' hev; simp only [evalK] at hev; exact (bind_pair hev).2
  | entry y => intro x S' hev; simp only [evalK] at hev; exact (bind_pair hev).2
  | callP f args =>
    intro x S' hev
    simp only [evalK, Option.bind_eq_some_iff] at hev
    obtain ⟨_, _, v, _, h2⟩ := hev
    cases h2; rfl
  | _ => exact fun {x S'} hev => quiet (by exact h) hev

theorem valO_quiet {o : SOper} (h : quietB o.op = true) (e : Env) : ∃ q : Option AV, ∀ S, valO C b o e S = q.map fun v => (v, S) := by
  obtain ⟨q, hq⟩ := evalK_quiet (C := C) (b := b) h
  unfold valO
  cases o.guard with
  | none => exact ⟨q e, fun S => by simp only [hq]; cases q e <;> rfl⟩
  | some g =>
    obtain ⟨g, want⟩ := g
    simp only [hq]
    cases hg : e.get g with
    | bool c =>
      by_cases hc : c = want
      · exact ⟨q e, fun S => by simp only [guardK, if_pos hc]; cases q e <;> rfl⟩
      · exact ⟨some .und, fun S => by simp only [guardK, if_neg hc]; rfl⟩
    | und => exact ⟨some .und, fun S => rfl⟩
    | _ => exact ⟨none, fun S => rfl⟩

theorem valO_read {o : SOper} (h : readB o.op = true) {r : AV × Store} (hv : valO C b o e S = some r) : r.2 = S := by
  unfold valO at hv
  cases hg : o.guard with
  | none => rw [hg] at hv; exact evalK_read h hv
  | some g =>
    obtain ⟨g, want⟩ := g
    rw [hg] at hv
    simp only at hv
    cases hc : e.get g with
    | bool c =>
      rw [hc] at hv
      simp only [guardK] at hv
      split at hv
      · exact evalK_read h hv
      · cases hv; rfl
    | und => rw [hc] at hv; cases hv; rfl
    | _ => rw [hc] at hv; cases hv

theorem avoidB_ne {i : Nat} : ∀ {l : List AV}, avoidB i l = true → ∀ j o, .ptr j o ∈ l → j ≠ i
  | [], _, j, o, h => by simp at h
  | x :: l, h, j, o, hm => by
    cases x <;> simp only [avoidB, Bool.false_eq_true] at h
    case ip cs k =>
      rcases List.mem_cons.1 hm with hm | hm
      · cases hm
      · exact avoidB_ne h j o hm
    case ptr k p =>
      simp only [Bool.and_eq_true, Bool.not_eq_true'] at h
      rcases List.mem_cons.1 hm with hm | hm
      · cases hm
        intro he
        rw [he, Nat.beq_refl] at h
        cases h.1
      · exact avoidB_ne h.2 j o hm

/-- A load out of an entry, and a call that turns another. -/
theorem load_apart {x y : SOper} {r : Nat} {vx : AV × Store} (hx : loadSlot x.op = some r) (hy : (avoids y.op).contains r = true) (hv : valO C b y e S = some vx) : valO C b x e vx.2 = (valO C b x e S).map fun p => (p.1, vx.2) := by
  obtain ⟨n, a, hxe⟩ : ∃ n a, x.op = .loadR n a r := by
    cases hxo : x.op <;> rw [hxo] at hx <;> simp only [loadSlot, reduceCtorEq, Option.some.injEq] at hx
    subst hx; exact ⟨_, _, rfl⟩
  obtain ⟨f, args, av, hye⟩ : ∃ f args av, y.op = .callO f args av := by
    cases hyo : y.op <;> rw [hyo] at hy <;> simp [avoids] at hy
    exact ⟨_, _, _, rfl⟩
  rw [hye] at hy
  have hmem : r ∈ av := by simpa [avoids] using hy
  -- the call's store
  have hS : vx.2 = S ∨ ∃ i z, vx.2 = S.set i z ∧ avoidB i (e.gets av) = true := by
    have call : ∀ {p : AV × Store}, evalK C b y.op e S (fun v S' => some (v, S')) = some p → ∃ i z, p.2 = S.set i z ∧ avoidB i (e.gets av) = true := by
      intro p h
      rw [hye] at h
      simp only [evalK, Option.bind_eq_some_iff] at h
      obtain ⟨as_, _, r', ⟨q, _, h4⟩, h5⟩ := h
      cases h5
      unfold onlyV at h4
      split at h4
      · split at h4
        · rename_i hh
          cases h4
          obtain ⟨⟨z, hz⟩, ha⟩ := hh
          exact ⟨_, z, hz, ha⟩
        · cases h4
      · cases h4
    unfold valO at hv
    cases hg : y.guard with
    | none => rw [hg] at hv; exact .inr (call hv)
    | some g =>
      obtain ⟨g, want⟩ := g
      rw [hg] at hv
      simp only at hv
      cases hc : e.get g with
      | bool c =>
        rw [hc] at hv
        simp only [guardK] at hv
        split at hv
        · exact .inr (call hv)
        · cases hv; exact .inl rfl
      | und => rw [hc] at hv; cases hv; exact .inl rfl
      | _ => rw [hc] at hv; cases hv
  have hload : ∀ S', (S' = S ∨ ∃ i z, S' = S.set i z ∧ avoidB i (e.gets av) = true) → loadRV n (a.ev e) (e.get r) S' = loadRV n (a.ev e) (e.get r) S := by
    rintro S' (rfl | ⟨i, z, rfl, ha⟩)
    · rfl
    · unfold loadRV
      split
      · rename_i i' o j p h1 h2
        cases hij : Nat.beq i' j with
        | false => rfl
        | true =>
          have := Nat.eq_of_beq_eq_true hij
          subst this
          have hne : i' ≠ i := avoidB_ne ha i' p (by
            unfold Env.gets
            rw [← h2]
            exact List.mem_map.2 ⟨r, hmem, rfl⟩)
          simp only [cond_true, loadV]
          rw [List.getElem?_set_ne (Ne.symm hne)]
      · rfl
  have hl := hload vx.2 hS
  unfold valO
  rw [hxe]
  cases hg : x.guard with
  | none =>
    simp only [evalK, hl]
    cases loadRV n (a.ev e) (e.get r) S <;> rfl
  | some g =>
    obtain ⟨g, want⟩ := g
    simp only [evalK, hl]
    cases hc : e.get g with
    | bool c =>
      simp only [guardK]
      split
      · cases loadRV n (a.ev e) (e.get r) S <;> rfl
      · rfl
    | _ => rfl

theorem readB_loadSlot {o : SOp} {r : Nat} (h : loadSlot o = some r) : readB o = true := by
  cases o <;> simp only [loadSlot, reduceCtorEq] at h
  rfl

/-- The store's part. -/
theorem val_swap {x y : SOper} {vx vy : AV × Store} (hc : commB x.op y.op = true) (h1 : valO C b x e S = some vx) (h2 : valO C b y e vx.2 = some vy) :
    ∃ S1, valO C b y e S = some (vy.1, S1) ∧ valO C b x e S1 = some (vx.1, vy.2) := by
  simp only [commB, Bool.or_eq_true, Bool.and_eq_true, Option.any_eq_true] at hc
  rcases hc with (((hx | hy) | ⟨hx, hy⟩) | ⟨r, h3, h4⟩) | ⟨r, h3, h4⟩
  · obtain ⟨q, hq⟩ := valO_quiet (C := C) (b := b) hx e
    rw [hq] at h1
    obtain ⟨v, rfl, rfl⟩ := Option.map_eq_some_iff.1 h1
    exact ⟨vy.2, h2, by rw [hq]; rfl⟩
  · obtain ⟨q, hq⟩ := valO_quiet (C := C) (b := b) hy e
    rw [hq] at h2
    obtain ⟨v, rfl, rfl⟩ := Option.map_eq_some_iff.1 h2
    exact ⟨S, by rw [hq]; rfl, h1⟩
  · have e1 := valO_read hx h1
    rw [e1] at h2
    have e2 := valO_read hy h2
    refine ⟨S, by rw [h2, ← e2], by rw [h1, e2, ← e1]⟩
  · -- x loads, y calls
    have e1 := valO_read (readB_loadSlot h3) h1
    rw [e1] at h2
    refine ⟨vy.2, h2, ?_⟩
    rw [load_apart h3 (by simpa using h4) h2, h1]; rfl
  · -- x calls, y loads
    have e2 := valO_read (readB_loadSlot h3) h2
    have := load_apart (x := y) (y := x) h3 (by simpa using h4) h1
    rw [h2] at this
    cases hv : valO C b y e S with
    | none => rw [hv] at this; cases this
    | some p =>
      rw [hv] at this
      simp only [Option.map_some, Option.some.injEq] at this
      have e3 := valO_read (readB_loadSlot h3) hv
      refine ⟨S, ?_, ?_⟩
      · rw [← e3, this]
      · rw [h1]; congr 1; exact Prod.ext rfl e2.symm

/-! two operations, one after the other -/

theorem stepO_eq {o : SOper} {s r : Env × Store × (Nat → Option Nat)} : stepO C b o s = some r ↔ ∃ pd' v S', pdStep o s.2.2 = some pd' ∧ valO C b o s.1 s.2.1 = some (v, S') ∧ r = (s.1.put o.to v, S', pd') := by
  unfold stepO
  simp only [Option.bind_eq_some_iff]
  constructor
  · rintro ⟨pd', h1, h2⟩
    obtain ⟨v, S', h3, h4⟩ := runOp_val.1 h2
    cases h4
    exact ⟨pd', v, S', h1, h3, rfl⟩
  · rintro ⟨pd', v, S', h1, h3, rfl⟩
    exact ⟨pd', h1, runOp_val.2 ⟨v, S', h3, rfl⟩⟩

theorem disj_of {l m : List Nat} (h : disj l m = true) {t : Nat} (hl : t ∈ l) : t ∉ m := by
  simp only [disj, List.all_eq_true, Bool.not_eq_true', List.contains_eq_mem, decide_eq_false_iff_not] at h
  exact h t hl

theorem put_other {e : Env} {d : Option Nat} {v : AV} {t : Nat} (h : ∀ s, d = some s → s ≠ t) : (e.put d v) t = e t := by
  rw [env_put]
  cases d with
  | none => rfl
  | some d =>
    have : isDst (some d) t = false := by
      simp only [isDst]; rw [Bool.eq_false_iff]; intro h2
      exact h d rfl (Nat.eq_of_beq_eq_true h2)
    rw [this]; rfl

theorem put_comm {e : Env} {d d' : Option Nat} {v v' : AV} (h : ∀ s, d = some s → d' ≠ some s) : (e.put d v).put d' v' = (e.put d' v').put d v := by
  funext t
  rw [env_put, env_put, env_put, env_put]
  cases h1 : isDst d t <;> cases h2 : isDst d' t <;> simp
  cases d with
  | none => cases h1
  | some d =>
    cases d' with
    | none => cases h2
    | some d' =>
      have e1 := Nat.eq_of_beq_eq_true h1
      have e2 := Nat.eq_of_beq_eq_true h2
      exact absurd (by rw [e1, e2]) (h d rfl)

/-- Where a slot is neither written nor read, its waiting stays. -/
theorem pd_swap {x y : SOper} (h : ∀ t ∈ x.outs, t ∉ y.outs) {pd p1 p2 : Nat → Option Nat} (h1 : pdStep x pd = some p1) (h2 : pdStep y p1 = some p2) : ∃ p3, pdStep y pd = some p3 ∧ pdStep x p3 = some p2 := by
  -- each step is a change of its own slots, under a condition on them
  have form : ∀ (o : SOper) (pd p1 : Nat → Option Nat), pdStep o pd = some p1 → ∃ (g : Nat → Option (Option Nat)), (∀ t, (g t).isSome = true → t ∈ o.outs) ∧ p1 = (fun t => (g t).getD (pd t)) ∧
      ∀ q : Nat → Option Nat, (∀ t ∈ o.outs, q t = pd t) → pdStep o q = some fun t => (g t).getD (q t) := by
    intro o pd p1 h
    cases hp : pendS o.op with
    | false =>
      rw [pdStep_plain hp] at h
      cases h
      refine ⟨fun t => bif isDst o.dst t then some none else none, fun t ht => ?_, ?_, fun q _ => ?_⟩
      · cases hd : isDst o.dst t with
        | false => dsimp only at ht; rw [hd] at ht; cases ht
        | true =>
          cases hdd : o.dst with
          | none => rw [hdd] at hd; cases hd
          | some d => rw [hdd] at hd; have := Nat.eq_of_beq_eq_true hd; subst this; simp [SOper.outs, hdd]
      · funext t; (try dsimp only); cases isDst o.dst t <;> rfl
      · rw [pdStep_plain hp]; congr 1; funext t; (try dsimp only); cases isDst o.dst t <;> rfl
    | true =>
      cases ho : o.op <;> rw [ho] at hp <;> first | (cases hp; done) | skip
      case allocP n =>
        simp only [pdStep, ho] at h
        obtain ⟨hg, h⟩ := bif_some h
        cases h
        refine ⟨fun t => bif isDst o.dst t then some (some n) else none, fun t ht => ?_, ?_, fun q _ => ?_⟩
        · cases hd : isDst o.dst t with
          | false => dsimp only at ht; rw [hd] at ht; cases ht
          | true =>
            cases hdd : o.dst with
            | none => rw [hdd] at hd; cases hd
            | some d => rw [hdd] at hd; have := Nat.eq_of_beq_eq_true hd; subst this; simp [SOper.outs, hdd]
        · funext t; (try dsimp only); cases isDst o.dst t <;> rfl
        · simp only [pdStep, ho, hg, cond_true]; congr 1; funext t; (try dsimp only); cases isDst o.dst t <;> rfl
      all_goals
        rename_i n t v
        simp only [pdStep, ho] at h
        obtain ⟨hg, h⟩ := bif_some h
        cases h
        have hout : t ∈ o.outs := by simp [SOper.outs, SOper.to, ho]
        refine ⟨fun s => bif Nat.beq s t then some none else none, fun s hs => ?_, ?_, fun q hq => ?_⟩
        · cases hd : Nat.beq s t with
          | false => dsimp only at hs; rw [hd] at hs; cases hs
          | true => rw [Nat.eq_of_beq_eq_true hd]; exact hout
        · funext s; (try dsimp only); cases Nat.beq s t <;> rfl
        · simp only [pdStep, ho, hq t hout, hg, cond_true]; congr 1; funext s; (try dsimp only); cases Nat.beq s t <;> rfl
  obtain ⟨g1, a1, a2, a3⟩ := form x pd p1 h1
  obtain ⟨g2, c1, c2, c3⟩ := form y p1 p2 h2
  have apart : ∀ t, (g1 t).isSome = true → (g2 t).isSome = true → False := fun t k1 k2 => h t (a1 t k1) (c1 t k2)
  refine ⟨_, c3 pd fun t ht => ?_, ?_⟩
  · rw [a2]
    cases hg : g1 t with
    | none => simp [hg]
    | some z => exact absurd ht (h t (a1 t (by rw [hg]; rfl)))
  · rw [a3 _ fun t ht => ?_]
    · congr 1
      funext t
      rw [c2, a2]
      cases hg1 : g1 t with
      | none => cases hg2 : g2 t <;> simp [hg1, hg2]
      | some z1 =>
        cases hg2 : g2 t with
        | none => simp [hg1, hg2]
        | some z2 => exact (apart t (by rw [hg1]; rfl) (by rw [hg2]; rfl)).elim
    · cases hg : g2 t with
      | none => simp [hg]
      | some z => exact absurd (c1 t (by rw [hg]; rfl)) (h t ht)

theorem step_swap {x y : SOper} (ha : apartB x y = true) (hc : commB x.op y.op = true) {s s1 s2 : Env × Store × (Nat → Option Nat)} (h1 : stepO C b x s = some s1) (h2 : stepO C b y s1 = some s2) : ∃ s3, stepO C b y s = some s3 ∧ stepO C b x s3 = some s2 := by
  simp only [apartB, Bool.and_eq_true] at ha
  obtain ⟨⟨a1, a2⟩, a3⟩ := ha
  obtain ⟨p1, v1, S1, k1, k2, rfl⟩ := stepO_eq.1 h1
  obtain ⟨p2, v2, S2, k3, k4, rfl⟩ := stepO_eq.1 h2
  obtain ⟨p3, k5, k6⟩ := pd_swap (fun t ht => disj_of a2 ht) k1 k3
  have toOut : ∀ {o : SOper} {t : Nat}, o.to = some t → t ∈ o.outs := fun h => by simp [SOper.outs, h]
  have e1 : valO C b y (s.1.put x.to v1) S1 = valO C b y s.1 S1 := valO_agree fun t ht => put_other fun u hu he => disj_of a1 (toOut hu) (he ▸ ht)
  rw [e1] at k4
  obtain ⟨S3, k7, k8⟩ := val_swap hc k2 k4
  have e2 : valO C b x (s.1.put y.to v2) S3 = valO C b x s.1 S3 := valO_agree fun t ht => put_other fun u hu he => disj_of a3 (toOut hu) (he ▸ ht)
  refine ⟨_, stepO_eq.2 ⟨p3, v2, S3, k5, k7, rfl⟩, stepO_eq.2 ⟨p2, v1, S2, k6, by rw [e2]; exact k8, ?_⟩⟩
  simp only [Prod.mk.injEq, and_true, true_and]
  exact put_comm fun u hu he => disj_of a2 (toOut hu) (toOut he)

noncomputable def runS (C : CallEnv) (b : Nat) : List SOper → Env × Store × (Nat → Option Nat) → Option (Env × Store × (Nat → Option Nat))
  | [], s => some s
  | o :: l, s => (stepO C b o s).bind (runS C b l)

theorem runS_append {l m : List SOper} {s : Env × Store × (Nat → Option Nat)} : runS C b (l ++ m) s = (runS C b l s).bind (runS C b m) := by
  induction l generalizing s with
  | nil => rfl
  | cons o l ih =>
    simp only [List.cons_append, runS, Option.bind_assoc]
    congr 1; funext t; exact ih

/-- To the front. -/
theorem runS_front {x : SOper} : ∀ {l : List SOper} {s r : Env × Store × (Nat → Option Nat)}, (∀ o ∈ l, apartB o x = true ∧ commB o.op x.op = true) → runS C b (l ++ [x]) s = some r → runS C b (x :: l) s = some r
  | [], s, r, _, h => h
  | o :: l, s, r, hc, h => by
    simp only [List.cons_append, runS, Option.bind_eq_some_iff] at h
    obtain ⟨s1, h1, h2⟩ := h
    have := runS_front (fun p hp => hc p (by simp [hp])) h2
    simp only [runS, Option.bind_eq_some_iff] at this
    obtain ⟨s2, h3, h4⟩ := this
    obtain ⟨s3, h5, h6⟩ := step_swap (hc o (by simp)).1 (hc o (by simp)).2 h1 h3
    simp only [runS, Option.bind_eq_some_iff]
    exact ⟨s3, h5, s2, h6, h4⟩

theorem runOps_runS {l : List SOper} {e' : Env} {S' : Store} : ∀ {e : Env} {S : Store} {pd : Nat → Option Nat}, runOps C b l (fun e S => some (e, S)) e S = some (e', S') → pdRun l pd = true → ∃ pd', runS C b l (e, S, pd) = some (e', S', pd') := by
  induction l with
  | nil => intro e S pd h _; rw [runOps_nil] at h; cases h; exact ⟨pd, rfl⟩
  | cons o l ih =>
    intro e S pd h hp
    rw [runOps_cons] at h
    obtain ⟨v, S1, h1, h2⟩ := runOp_val.1 h
    simp only [pdRun] at hp
    split at hp
    · rename_i pd1 h3
      obtain ⟨pd2, h4⟩ := ih h2 hp
      exact ⟨pd2, by simp only [runS]; rw [stepO_eq.2 ⟨pd1, v, S1, h3, h1, rfl⟩]; exact h4⟩
    · cases hp

end
end Go.Abs

/-
  Regions, in their own order and in any.
-/
namespace Go.Abs
open Go Go.RowKit

section
variable {T : Tabs} {an : Ann} {X : Ctx} {b N : Nat} {C : CallEnv}
variable {G0 : Gst} {S0 : Store} {w0 : World} {e0 : Env} {a0 : Act} {wr : List Nat} {ops : Array Oper} {Q : Exit → Act → World → Prop}

abbrev St := Env × Store × (Nat → Option Nat)

abbrev RegS (X : Ctx) (G0 : Gst) (S0 : Store) (w0 : World) (e0 : Env) (a0 : Act) (b N : Nat) (wr : List Nat) (s : St) (a : Act) (w : World) : Prop := Reg X G0 S0 w0 e0 a0 b N wr s.1 s.2.1 s.2.2 a w

def sopsI (T : Tabs) (an : Ann) (ops : Array Oper) (idx : List Nat) : List SOper := idx.filterMap fun i => (ops[i]?).map (operC T an ops)

theorem sopsI_cons {i : Nat} {idx : List Nat} {o : Oper} (h : ops[i]? = some o) : sopsI T an ops (i :: idx) = operC T an ops o :: sopsI T an ops idx := by
  simp [sopsI, h]

theorem sopsI_append {l m : List Nat} : sopsI T an ops (l ++ m) = sopsI T an ops l ++ sopsI T an ops m := by simp [sopsI]

theorem sopsI_range : sopsI T an ops (List.range ops.size) = ops.toList.map (operC T an ops) := by
  apply List.ext_getElem?
  intro j
  have key : ∀ n, n ≤ ops.size → sopsI T an ops (List.range n) = (ops.toList.take n).map (operC T an ops) := by
    intro n
    induction n with
    | zero => intro _; simp [sopsI]
    | succ n ih =>
      intro hn
      rw [List.range_succ, sopsI_append, ih (by omega)]
      have hl : n < ops.toList.length := by simp; omega
      rw [List.take_succ_eq_append_getElem hl]
      simp [sopsI, show n < ops.size by omega]
  rw [key ops.size (Nat.le_refl _)]
  rw [show ops.toList.take ops.size = ops.toList from List.take_of_length_le (by simp)]

theorem reg_run (B : Base T X C) {r : St} (hwr : ∀ o ∈ ops.toList, ∀ t ∈ (operC T an ops o).outs, t < N ∧ t ∈ wr) (hQ : ∀ a w, RegS X G0 S0 w0 e0 a0 b N wr r a w → Q .normal a w) :
    ∀ (idx : List Nat) {s : St} {a : Act} {w : World}, (∀ i ∈ idx, i < ops.size) → runS C b (sopsI T an ops idx) s = some r → RegS X G0 S0 w0 e0 a0 b N wr s a w → wpOps T.P ops Q idx a w
  | [], s, a, w, _, h, hr => by
    simp only [sopsI, List.filterMap_nil, runS, Option.some.injEq] at h
    subst h
    exact hQ _ _ hr
  | i :: idx, s, a, w, hi, h, hr => by
    have hil := hi i (by simp)
    have ho : ops[i]? = some ops[i] := Array.getElem?_eq_getElem hil
    rw [sopsI_cons ho] at h
    simp only [runS, Option.bind_eq_some_iff] at h
    obtain ⟨s1, h1, h2⟩ := h
    have := step_ok (Q := Q) (K := wpOps T.P ops Q idx) B hr (hwr _ (by simp)) h1 (fun a' w' hr' => reg_run B hwr hQ idx (fun k hk => hi k (by simp [hk])) h2 hr')
    unfold wpOne at this
    simp only [wpOps, ho]
    exact this

/-! any order -/

def remI (n : Nat) (listed : Array Bool) : List Nat := (List.range n).filter fun i => !listed.getD i true

theorem mem_remI {n i : Nat} {listed : Array Bool} : i ∈ remI n listed ↔ i < n ∧ listed.getD i true = false := by
  simp [remI]

theorem range_split {n i : Nat} (h : i < n) : List.range n = List.range i ++ i :: List.range' (i + 1) (n - i - 1) := by
  rw [List.range_eq_range', List.range_eq_range']
  have : n = i + (1 + (n - i - 1)) := by omega
  conv => lhs; rw [this, ← List.range'_append_1, ← List.range'_append_1]
  simp

theorem remI_split {n i : Nat} {listed : Array Bool} (h : i ∈ remI n listed) (hs : listed.size = n) :
    ∃ pre post, remI n listed = pre ++ i :: post ∧ remI n (listed.setIfInBounds i true) = pre ++ post ∧ ∀ k ∈ pre, k < i ∧ k ∈ remI n listed := by
  obtain ⟨hi, hl⟩ := mem_remI.1 h
  refine ⟨(List.range i).filter fun k => !listed.getD k true, (List.range' (i + 1) (n - i - 1)).filter fun k => !listed.getD k true, ?_, ?_, fun k hk => ?_⟩
  · unfold remI
    rw [range_split hi, List.filter_append, List.filter_cons, hl]; simp
  · have ne : ∀ k, k ≠ i → (listed.setIfInBounds i true).getD k true = listed.getD k true := fun k hk => by
      simp [Array.getD_eq_getD_getElem?, Array.getElem?_setIfInBounds_ne (Ne.symm hk)]
    have self : (listed.setIfInBounds i true).getD i true = true := by simp [Array.getD_eq_getD_getElem?, hs, hi]
    unfold remI
    rw [range_split hi, List.filter_append, List.filter_cons, self]
    simp only [Bool.not_true, Bool.false_eq_true, if_false]
    congr 1
    · apply List.filter_congr; intro k hk; rw [ne k (by have := List.mem_range.1 hk; omega)]
    · apply List.filter_congr; intro k hk; rw [ne k (by have := List.mem_range'_1.1 hk; omega)]
  · simp only [List.mem_filter, List.mem_range] at hk
    exact ⟨hk.1, mem_remI.2 ⟨by omega, by simpa using hk.2⟩⟩

/-- Nothing is listed ahead of what it waits for. -/
def ClosedI (ops : Array Oper) (listed : Array Bool) : Prop := ∀ j o, ops[j]? = some o → listed.getD j false = true → ∀ ed ∈ o.after.toList, Region.binds .any ed = true → listed.getD ed.on false = true

theorem fold_bit {acc : List Nat} {k : Nat} : ∀ (l : List Edge) (m : Nat), (l.foldl (fun m e => if Region.binds .any e then Nat.lor m (Nat.lor (Nat.pow 2 e.on) (acc.getD e.on 0)) else m) m).testBit k = true →
    m.testBit k = true ∨ ∃ e ∈ l, Region.binds .any e = true ∧ (e.on = k ∨ (acc.getD e.on 0).testBit k = true)
  | [], m, h => .inl h
  | e :: l, m, h => by
    simp only [List.foldl_cons] at h
    rcases fold_bit l _ h with h | ⟨e', h1, h2⟩
    · split at h
      · rename_i hb
        have h' : (m ||| (2 ^ e.on ||| acc.getD e.on 0)).testBit k = true := h
        rw [Nat.testBit_or, Nat.testBit_or, Nat.testBit_two_pow] at h'
        simp only [Bool.or_eq_true, decide_eq_true_eq] at h'
        rcases h' with h' | h' | h'
        · exact .inl h'
        · exact .inr ⟨e, by simp, hb, .inl h'⟩
        · exact .inr ⟨e, by simp, hb, .inr h'⟩
      · exact .inl h
    · exact .inr ⟨e', by simp [h1], h2⟩

theorem behindL_spec : ∀ (rest : List Oper) (acc : List Nat), (behindL rest acc).length = acc.length + rest.length ∧ (∀ j, j < acc.length → (behindL rest acc).getD j 0 = acc.getD j 0) ∧
    ∀ j k o, rest[j]? = some o → ((behindL rest acc).getD (acc.length + j) 0).testBit k = true → ∃ e ∈ o.after.toList, Region.binds .any e = true ∧ (e.on = k ∨ (e.on < acc.length + j ∧ ((behindL rest acc).getD e.on 0).testBit k = true))
  | [], acc => ⟨by simp [behindL], fun _ _ => rfl, fun j k o h => by simp at h⟩
  | o :: rest, acc => by
    simp only [behindL]
    generalize hm : (o.after.toList.foldl (fun m e => if Region.binds .any e then Nat.lor m (Nat.lor (Nat.pow 2 e.on) (acc.getD e.on 0)) else m) 0) = m
    obtain ⟨h1, h2, h3⟩ := behindL_spec rest (acc ++ [m])
    refine ⟨by rw [h1]; simp; omega, fun j hj => ?_, fun j k o' ho hb => ?_⟩
    · rw [h2 j (by simp; omega)]
      simp [List.getD_eq_getElem?_getD, List.getElem?_append_left hj]
    · cases j with
      | zero =>
        simp only [List.getElem?_cons_zero, Option.some.injEq] at ho
        subst ho
        rw [Nat.add_zero, h2 acc.length (by simp)] at hb
        have : (acc ++ [m]).getD acc.length 0 = m := by simp [List.getD_eq_getElem?_getD]
        rw [this, ← hm] at hb
        rcases fold_bit _ _ hb with hz | ⟨e, k1, k2, k3⟩
        · simp at hz
        · refine ⟨e, k1, k2, k3.imp id fun hk => ?_⟩
          have hlt : e.on < acc.length := by
            rcases Nat.lt_or_ge e.on acc.length with h | h
            · exact h
            · rw [List.getD_eq_getElem?_getD, List.getElem?_eq_none h] at hk; simp at hk
          refine ⟨by omega, ?_⟩
          rw [h2 e.on (by simp; omega)]
          simpa [List.getD_eq_getElem?_getD, List.getElem?_append_left hlt] using hk
      | succ j =>
        have := h3 j k o' (by simpa using ho) (by
          rw [show (acc ++ [m]).length + j = acc.length + (j + 1) by simp; omega]; exact hb)
        obtain ⟨e, k1, k2, k3⟩ := this
        refine ⟨e, k1, k2, k3.imp id fun ⟨p, q⟩ => ⟨by simp at p; omega, q⟩⟩

theorem behind_closed {listed : Array Bool} (hc : ClosedI ops listed) (hs : listed.size = ops.size) {k : Nat} : ∀ j, listed.getD j false = true → ((behindL ops.toList []).getD j 0).testBit k = true → listed.getD k false = true := by
  intro j
  induction j using Nat.strongRecOn with
  | _ j ih =>
    intro hl hb
    have hj : j < ops.size := by
      rcases Nat.lt_or_ge j ops.size with h | h
      · exact h
      · simp [Array.getD_eq_getD_getElem?, Array.getElem?_eq_none (show listed.size ≤ j by omega)] at hl
    have ho : ops[j]? = some ops[j] := Array.getElem?_eq_getElem hj
    obtain ⟨_, _, h3⟩ := behindL_spec ops.toList []
    obtain ⟨e, k1, k2, k3⟩ := h3 j k ops[j] (by simpa using ho) (by simpa using hb)
    have he := hc j _ ho hl e k1 k2
    rcases k3 with rfl | ⟨k4, k5⟩
    · exact he
    · exact ih e.on (by simpa using k4) he k5

/-- What the check of a drawn region tells. -/
structure DrawOK (ops : Array Oper) (l : List SOper) : Prop where
  back : ∀ k o, ops[k]? = some o → ∀ ed ∈ o.after.toList, Region.binds .any ed = true → ed.on < k
  free : ∀ k j sk sj, k < j → l[k]? = some sk → l[j]? = some sj → ((behindL ops.toList []).getD j 0).testBit k = true ∨ (apartB sk sj = true ∧ commB sk.op sj.op = true)

theorem getD_flip {a : Array Bool} {i : Nat} (h : i < a.size) : a.getD i true = a.getD i false := by
  simp [Array.getD_eq_getD_getElem?, h]

theorem lexFromB_ok {l : List SOper} (hl : l.length = ops.size) : ∀ (n k : Nat) (listed : Array Bool), k + n = ops.size → listed.size = ops.size → (∀ j, j < ops.size → listed.getD j true = decide (j < k)) → lexFromB ops l (behindL ops.toList []) n k listed = true →
    (∀ m o, k ≤ m → ops[m]? = some o → ∀ ed ∈ o.after.toList, Region.binds .any ed = true → ed.on < m) ∧
    ∀ m j sk sj, k ≤ m → m < j → l[m]? = some sk → l[j]? = some sj → ((behindL ops.toList []).getD j 0).testBit m = true ∨ (apartB sk sj = true ∧ commB sk.op sj.op = true)
  | 0, k, listed, hk, _, _, _ => ⟨fun m o hm ho => by
      have := (Array.getElem?_eq_some_iff.1 ho).1; omega, fun m j sk sj hm hmj h1 => by
      have := (List.getElem?_eq_some_iff.1 h1).1; omega⟩
  | n + 1, k, listed, hk, hs, hlist, h => by
    simp only [lexFromB, Bool.and_eq_true] at h
    obtain ⟨⟨h1, h2⟩, h3⟩ := h
    have hkn : k < ops.size := by omega
    have hok : ops[k]? = some ops[k] := Array.getElem?_eq_getElem hkn
    obtain ⟨i1, i2⟩ := lexFromB_ok hl n (k + 1) (listed.setIfInBounds k true) (by omega) (by simpa using hs) (fun j hj => by
      by_cases hjk : j = k
      · subst hjk; simp [Array.getD_eq_getD_getElem?, hs, hj]
      · have := hlist j hj
        rw [Array.getD_eq_getD_getElem?] at *
        rw [Array.getElem?_setIfInBounds_ne (Ne.symm hjk), this]
        simp only [decide_eq_decide]; omega) h3
    refine ⟨fun m o hm ho ed hed hb => ?_, fun m j sk sj hm hmj e1 e2 => ?_⟩
    · by_cases hmk : m = k
      · subst hmk
        rw [hok] at ho; cases ho
        simp only [List.contains_eq_mem, decide_eq_true_eq, Region.ready, List.mem_filter, Bool.and_eq_true, hok, Option.map_some, Option.getD_some] at h1
        have := h1.2.2
        rw [← Array.all_toList, List.all_eq_true] at this
        have := this ed hed
        rw [hb] at this
        simp only [Bool.not_true, Bool.false_or] at this
        have hlt : ed.on < listed.size := by
          rcases Nat.lt_or_ge ed.on listed.size with h | h
          · exact h
          · simp [Array.getD_eq_getD_getElem?, Array.getElem?_eq_none h] at this
        have h4 := hlist ed.on (by omega)
        rw [getD_flip hlt, this] at h4
        simpa using h4.symm
      · exact i1 m o (by omega) ho ed hed hb
    · by_cases hmk : m = k
      · subst hmk
        unfold freeB at h2
        rw [hok, e1] at h2
        simp only [List.all_eq_true, List.mem_range, Bool.or_eq_true, beq_iff_eq] at h2
        have hjn : j < ops.size := by have := (List.getElem?_eq_some_iff.1 e2).1; omega
        rcases h2 j hjn with (h2 | h2) | h2
        · omega
        · rw [hlist j hjn] at h2; simp at h2; omega
        · rw [Array.getElem?_eq_getElem hjn, e2] at h2
          simp only [Bool.or_eq_true, Bool.and_eq_true] at h2
          exact h2
      · exact i2 m j sk sj (by omega) hmj e1 e2

theorem drawB_ok {l : List SOper} (hl : l.length = ops.size) (h : drawB ops l = true) : DrawOK ops l := by
  simp only [drawB, Bool.and_eq_true] at h
  obtain ⟨i1, i2⟩ := lexFromB_ok hl ops.size 0 (Array.replicate ops.size false) (by omega) (by simp) (fun j hj => by simp [Array.getD_eq_getD_getElem?, hj]) h.2
  exact ⟨fun k o ho => i1 k o (Nat.zero_le _) ho, fun k j sk sj hkj => i2 k j sk sj (Nat.zero_le _) hkj⟩

theorem ready_iff {listed : Array Bool} {i : Nat} : i ∈ Region.ready .any ops listed ↔ i < ops.size ∧ listed.getD i true = false ∧ ∃ o, ops[i]? = some o ∧ ∀ ed ∈ o.after.toList, Region.binds .any ed = true → listed.getD ed.on false = true := by
  simp only [Region.ready, List.mem_filter, List.mem_range, Bool.and_eq_true, Bool.not_eq_true']
  constructor
  · rintro ⟨h1, h2, h3⟩
    refine ⟨h1, h2, ops[i], Array.getElem?_eq_getElem h1, fun ed hed hb => ?_⟩
    rw [Array.getElem?_eq_getElem h1, Option.map_some, Option.getD_some, ← Array.all_toList, List.all_eq_true] at h3
    have := h3 ed hed
    rw [hb] at this
    simpa using this
  · rintro ⟨h1, h2, o, h3, h4⟩
    refine ⟨h1, h2, ?_⟩
    rw [h3, Option.map_some, Option.getD_some, ← Array.all_toList, List.all_eq_true]
    intro ed hed
    cases hb : Region.binds .any ed with
    | false => rfl
    | true => rw [h4 ed hed hb]; rfl

theorem reg_any (B : Base T X C) {r : St} (hwr : ∀ o ∈ ops.toList, ∀ t ∈ (operC T an ops o).outs, t < N ∧ t ∈ wr) (hD : DrawOK ops (ops.toList.map (operC T an ops))) (hQ : ∀ a w, RegS X G0 S0 w0 e0 a0 b N wr r a w → Q .normal a w) :
    ∀ (fuel : Nat) {listed : Array Bool} {s : St} {a : Act} {w : World}, listed.size = ops.size → (remI ops.size listed).length = fuel → ClosedI ops listed → runS C b (sopsI T an ops (remI ops.size listed)) s = some r → RegS X G0 S0 w0 e0 a0 b N wr s a w →
      wpAny T.P .any ops Q fuel listed a w := by
  have done : ∀ {listed : Array Bool} {s : St} {a : Act} {w : World}, remI ops.size listed = [] → runS C b (sopsI T an ops (remI ops.size listed)) s = some r → RegS X G0 S0 w0 e0 a0 b N wr s a w → Q .normal a w := by
    intro listed s a w hrem h hr
    rw [hrem] at h
    simp only [sopsI, List.filterMap_nil, runS, Option.some.injEq] at h
    subst h
    exact hQ _ _ hr
  intro fuel
  induction fuel with
  | zero =>
    intro listed s a w hs hlen hc h hr
    have hrem := List.eq_nil_of_length_eq_zero hlen
    refine ⟨?_, done hrem h hr⟩
    apply List.eq_nil_iff_forall_not_mem.2
    intro i hi
    obtain ⟨h1, h2, _⟩ := ready_iff.1 hi
    have := mem_remI.2 ⟨h1, h2⟩
    rw [hrem] at this; cases this
  | succ fuel ih =>
    intro listed s a w hs hlen hc h hr
    refine ⟨fun hready => ?_, fun i hi => ?_⟩
    · refine done ?_ h hr
      -- the first that is left would be ready
      by_cases hne : remI ops.size listed = []
      · exact hne
      · exfalso
        have hex : ∃ k, k ∈ remI ops.size listed := List.exists_mem_of_ne_nil _ hne
        obtain ⟨k, hk, hmin⟩ : ∃ k, k ∈ remI ops.size listed ∧ ∀ j, j ∈ remI ops.size listed → k ≤ j := by
          cases hrm : remI ops.size listed with
          | nil => exact absurd hrm hne
          | cons x xs =>
            refine ⟨x, by simp, fun j hj => ?_⟩
            have hsorted : (remI ops.size listed).Pairwise (· < ·) := by
              unfold remI
              exact List.Pairwise.filter _ List.pairwise_lt_range
            rw [hrm, List.pairwise_cons] at hsorted
            rcases List.mem_cons.1 hj with rfl | hj
            · exact Nat.le_refl _
            · exact Nat.le_of_lt (hsorted.1 j hj)
        obtain ⟨hk1, hk2⟩ := mem_remI.1 hk
        have : k ∈ Region.ready .any ops listed := ready_iff.2 ⟨hk1, hk2, ops[k], Array.getElem?_eq_getElem hk1, fun ed hed hb => by
          have hlt := hD.back k _ (Array.getElem?_eq_getElem hk1) ed hed hb
          cases hl : listed.getD ed.on false with
          | true => rfl
          | false =>
            have hin : ed.on ∈ remI ops.size listed := mem_remI.2 ⟨by omega, by rw [getD_flip (by omega)]; exact hl⟩
            have := hmin _ hin
            omega⟩
        rw [hready] at this; cases this
    · obtain ⟨h1, h2, o, ho, h3⟩ := ready_iff.1 hi
      obtain ⟨pre, post, p1, p2, p3⟩ := remI_split (mem_remI.2 ⟨h1, h2⟩) hs
      have hget : ∀ {k : Nat} {ok : Oper}, ops[k]? = some ok → (ops.toList.map (operC T an ops))[k]? = some (operC T an ops ok) := fun h => by
        rw [List.getElem?_map, Array.getElem?_toList, h]; rfl
      -- to the front
      rw [p1, show pre ++ i :: post = (pre ++ [i]) ++ post by simp, sopsI_append, runS_append, Option.bind_eq_some_iff] at h
      obtain ⟨s2, k1, k2⟩ := h
      rw [sopsI_append, show sopsI T an ops [i] = [operC T an ops o] by simp [sopsI, ho]] at k1
      have front := runS_front (fun so hso => by
        simp only [sopsI, List.mem_filterMap, Option.map_eq_some_iff] at hso
        obtain ⟨k, hk, ok, hok, rfl⟩ := hso
        obtain ⟨q1, q2⟩ := p3 k hk
        rcases hD.free k i _ _ q1 (hget hok) (hget ho) with hb | hb
        · exfalso
          obtain ⟨_, _, hsp⟩ := behindL_spec ops.toList []
          obtain ⟨e, e1, e2, e3⟩ := hsp i k o (by simpa using ho) (by simpa using hb)
          have he := h3 e e1 e2
          have hkl : listed.getD k false = true := by
            rcases e3 with rfl | ⟨_, e5⟩
            · exact he
            · exact behind_closed hc hs e.on he e5
          obtain ⟨q3, q4⟩ := mem_remI.1 q2
          rw [getD_flip (by omega), hkl] at q4
          cases q4
        · exact hb) k1
      simp only [runS, Option.bind_eq_some_iff] at front
      obtain ⟨s1, f1, f2⟩ := front
      have := step_ok (Q := Q) (K := wpAny T.P .any ops Q fuel (listed.setIfInBounds i true)) B hr (hwr o (by
        have := (Array.getElem?_eq_some_iff.1 ho).2
        rw [← this]; simp)) f1 (fun a' w' hr' => by
        refine ih (by simpa using hs) ?_ ?_ ?_ hr'
        · rw [p2]; rw [p1] at hlen; simp at hlen ⊢; omega
        · intro j oj hj hl ed hed hb
          have ne : ∀ k, listed.getD k false = true → (listed.setIfInBounds i true).getD k false = true := by
            intro k hk
            by_cases hki : k = i
            · subst hki; simp [Array.getD_eq_getD_getElem?, hs, h1]
            · rw [Array.getD_eq_getD_getElem?, Array.getElem?_setIfInBounds_ne (Ne.symm hki), ← Array.getD_eq_getD_getElem?]; exact hk
          by_cases hji : j = i
          · subst hji
            rw [ho] at hj; cases hj
            exact ne _ (h3 ed hed hb)
          · rw [Array.getD_eq_getD_getElem?, Array.getElem?_setIfInBounds_ne (Ne.symm hji), ← Array.getD_eq_getD_getElem?] at hl
            exact ne _ (hc j oj hj hl ed hed hb)
        · rw [p2, sopsI_append, runS_append, f2]; exact k2)
      unfold wpOne at this
      unfold wpOp
      rw [ho]
      exact this

end
end Go.Abs

/-
  A step of a walk over a map: whichever element the tape says.
-/
namespace Go.Abs
open Go Go.RowKit
open Go.ChangeMaps (setBlock)

section
variable {T : Tabs} {X : Ctx} {G : Gst} {b N : Nat} {e : Env} {S : Store} {a : Act} {w : World}

theorem memN_iff' {t : Nat} {l : List Nat} : memN t l = true ↔ t ∈ l := by
  induction l with
  | nil => simp [memN]
  | cons k l ih =>
    simp only [memN, List.mem_cons]
    cases hk : Nat.beq k t with
    | true => simp [Nat.eq_of_beq_eq_true hk]
    | false =>
      have : k ≠ t := fun h => by subst h; simp [Nat.beq_refl] at hk
      simp [ih, Ne.symm this]

theorem walk_step {u : Value} {p : AV} {l : List (AV × AV × Store)} {ty : Nat} (hs : Sat X G b S w) (hb : b ≤ S.length) (hu : V2 G S u p) (h : stepI p S = some l) :
    (l = [] ∧ (Instr.next u false ty).run T.P w = .ok (.tuple #[.bool false]) w) ∨
    ∃ c ∈ l, ∃ v w', (Instr.next u false ty).run T.P w = .ok v w' ∧ OpOK X G b S w (.tup [.bool true, c.1, c.2.1]) c.2.2 v w' := by
  unfold stepI at h
  split at h
  · rename_i i
    split at h
    · rename_i m n seen he
      split at h
      · rename_i es hm
        split at h
        · rename_i hn
          cases h
          cases hu.ptr_inv
          obtain ⟨sn, q1, q2, q3⟩ := hs.ent i _ he
          obtain ⟨mes, m1, m2, m3, m4⟩ := hs.mapAt hm
          have hlow := hs.lowS hb hm
          simp only [entBelow] at hlow
          subst q2
          have hi : i < S.length := (List.getElem?_eq_some_iff.1 he).1
          have him : m ≠ i := by rintro rfl; rw [he] at hm; cases hm
          have hbornj : ∀ j (h : j < mes.size), mes[j].born = j := fun j hj => by
            have := (m3 j (by omega)).2.2
            simpa [Array.getD_eq_getD_getElem?, hj] using this
          have hold : ∀ x ∈ mes.toList, x.born < n := by
            intro x hx
            obtain ⟨j, hj, rfl⟩ := List.getElem_of_mem hx
            simp only [Array.length_toList] at hj
            rw [Array.getElem_toList, hbornj j hj]; omega
          rcases run_next_at (P := T.P) w ty (G.β i) (G.β m) n n sn mes mes.size q1 m1 hold (Nat.le_refl _) with ⟨h0, hrun⟩ | ⟨x, hx, w1, hw1, hrun⟩
          · left
            refine ⟨?_, hrun⟩
            have hemp : leftOf mes sn = #[] := Array.eq_empty_of_size_eq_zero h0
            rw [List.map_eq_nil_iff, List.filter_eq_nil_iff]
            intro j hj hc
            have hjl : j < mes.size := by rw [m2, hn]; exact List.mem_range.1 hj
            have hmem : mes[j] ∈ leftOf mes sn := by
              unfold leftOf
              rw [Array.mem_filter]
              refine ⟨Array.getElem_mem _, ?_⟩
              rw [hbornj j hjl]
              simp only [Bool.not_eq_true'] at hc ⊢
              rw [Bool.eq_false_iff] at hc ⊢
              intro hcon
              exact hc (memN_iff'.2 (by simpa using hcon))
            rw [hemp] at hmem
            simp at hmem
          · right
            have hx' : x ∈ mes.toList ∧ sn.contains x.born = false := by
              unfold leftOf at hx
              have := Array.mem_filter.1 (Array.mem_toList_iff.1 hx)
              exact ⟨Array.mem_toList_iff.2 this.1, by simpa using this.2⟩
            obtain ⟨hx1, hx2⟩ := hx'
            obtain ⟨j, hj, rfl⟩ := List.getElem_of_mem hx1
            simp only [Array.length_toList] at hj
            simp only [Array.getElem_toList] at *
            have hb1 := hbornj j hj
            rw [hb1] at hx2 hrun
            have hjl : j < es.length := by omega
            have hme : mes[j] = mes.getD j default := by simp [Array.getD_eq_getD_getElem?, hj]
            have hes : es.getD j (.u, .u) = es[j] := by simp [List.getD_eq_getElem?_getD, hjl]
            refine ⟨(es[j].1, es[j].2, S.set i (.iter m n (sn.toList ++ [j]))), ?_, _, _, hrun, ?_⟩
            · rw [List.mem_map]
              refine ⟨j, ?_, by rw [hes]⟩
              rw [List.mem_filter]
              refine ⟨List.mem_range.2 (by omega), ?_⟩
              simp only [Bool.not_eq_true']
              rw [Bool.eq_false_iff]
              intro hc
              have := memN_iff'.1 hc
              have : sn.contains j = true := by simpa using this
              rw [hx2] at this; cases this
            · -- the walk's block laid anew
              have hs1 : Sat X G b S w1 := by
                rcases hw1 with rfl | rfl
                · exact hs
                · exact hs.drew hb
              have hq1 : w1.heap[G.β i]? = some (.mapIter (some (G.β m)) n sn n) := by rcases hw1 with rfl | rfl <;> exact q1
              have hlt := heap_lt hq1
              have hbm : Nat.blt m (if i < b then b else S.length) = true := by
                have := hs.bel i _ he
                simpa only [entBelow] using this
              obtain ⟨e1, e2, e3⟩ := turn_block hs1 hb (e' := .iter m n (sn.toList ++ [j])) he (fun c => by unfold Acts; rw [he]) (fun c hc => by unfold Acts at hc; rw [List.getElem?_set_self hi] at hc; exact hc) (.mapIter (some (G.β m)) n (sn.push j) mes.size) hlt q3 (by simp) (by simpa only [entBelow] using hbm) (fun _ k _ hk => by simpa only [entBelow] using hk)
                (fun _ => ⟨sn.push j, by rw [(set_heap_eq hlt _).1, show mes.size = n by omega], by simp, q3⟩)
              have hK : Keep G S w G (S.set i (.iter m n (sn.toList ++ [j]))) (setBlock w1 (G.β i) (.mapIter (some (G.β m)) n (sn.push j) mes.size)) := by
                rcases hw1 with rfl | rfl
                · exact e2
                · exact ⟨e2.size, fun k hk hno => e2.blk k hk hno, e2.act, e2.mem⟩
              refine ⟨G, e1, hK, e3, ?_, ?_⟩
              · rw [hme]
                refine .tup _ _ rfl fun k hk => ?_
                match k, hk with
                | 0, _ => exact .one (.v0 (.bool _))
                | 1, _ => exact ((m3 j hjl).1.v2 (S := S)).mono e1 ((m3 j hjl).1.low _)
                | 2, _ => exact (m3 j hjl).2.1.mono e1 (belowsM_get hlow hjl)
              · simp only [below_tup_eq, belows, Bool.and_true, Bool.and_eq_true]
                refine ⟨by simp [below], (m3 j hjl).1.low _, ?_⟩
                exact below_mono (by simp) _ (belowsM_get hlow hjl)
        · cases h
      · cases h
    · cases h
  · cases h

end
end Go.Abs
