/- Sorted of the reference's chapter 3, walked over the model: the numbers of a set, ascending, whatever the order in which the map hands them out. -/
import Derived.Test.YtjfkhhfdfebpeaaGreatDoorEngB
import Derived.Test.YtjfkhhfdfebpeaaGreatDoorEngC
import Derived.Laws.IdiomRangeMap
set_option linter.all false
set_option linter.unusedVariables false
set_option linter.unusedSimpArgs false
set_option maxRecDepth 100000
namespace Eng
open Go Go.ChangeMaps
abbrev Key := Option Tmp × Op × Option (Nat × Bool)
def keyO (o : Oper) : Key := (o.dst, o.op, o.guard)
def k0 (tm ts ti tb : TypeId) : List Key := [(some 2, .assign (.const (.slice none 0 0)), none)]
def k1 (tm ts ti tb : TypeId) : List Key := [(some 3, .assign (.const (.slice none 0 0)), none)]
def k2 (tm ts ti tb : TypeId) : List Key := [(some 6, .move (.tmp 0), none), (some 7, .range tm (.tmp 6), none)]
def k3 (tm ts ti tb : TypeId) : List Key := [(some 8, .next (.tmp 7) false, none), (some 9, .extract (.tmp 8) 0, none)]
def k4 (tm ts ti tb : TypeId) : List Key := [(some 10, .entry (.tmp 7), none), (some 11, .extract (.tmp 10) 0, none), (some 4, .assign (.tmp 11), none)]
def k5 (tm ts ti tb : TypeId) : List Key := [(some 12, .move (.tmp 3), none), (some 13, .call { callee := .builtin .len, args := #[.tmp 12], argTypes := #[ts] }, none), (some 5, .assign (.tmp 13), none)]
def k6 (tm ts ti tb : TypeId) : List Key := [(some 14, .move (.tmp 3), none), (some 15, .move (.tmp 4), none), (some 16, .buildSlice ts 1 #[(0, .tmp 15)], none), (some 17, .call { callee := .builtin .append, args := #[.tmp 14, .tmp 16], argTypes := #[ts, ts] }, none), (some 3, .assign (.tmp 17), none)]
def k7 (tm ts ti tb : TypeId) : List Key := [(some 18, .move (.tmp 5), none), (some 19, .binOp .gtr ti (.tmp 18) (.const (.int .i64 0)) ti, none), (some 20, .move (.tmp 19), none), (some 21, .move (.tmp 3), some (2, true)), (some 22, .move (.tmp 5), some (2, true)), (some 23, .binOp .sub ti (.tmp 22) (.const (.int .i64 1)) ti, some (2, true)), (some 24, .indexAddr ts (.tmp 21) (.tmp 23), some (2, true)), (some 25, .load ti (.tmp 24), some (2, true)), (some 26, .move (.tmp 4), some (2, true)), (some 27, .binOp .gtr ti (.tmp 25) (.tmp 26) ti, some (2, true)), (some 28, .pick (.tmp 20) (.tmp 27) (.const (.bool false)), none)]
def k8 (tm ts ti tb : TypeId) : List Key := [(some 29, .move (.tmp 3), none), (some 30, .move (.tmp 5), none), (some 31, .move (.tmp 3), none), (some 32, .move (.tmp 5), none), (some 33, .binOp .sub ti (.tmp 32) (.const (.int .i64 1)) ti, none), (some 34, .indexAddr ts (.tmp 31) (.tmp 33), none), (some 35, .load ti (.tmp 34), none), (some 36, .indexAddr ts (.tmp 29) (.tmp 30), none), (none, .store ti (.tmp 36) (.tmp 35), none)]
def k9 (tm ts ti tb : TypeId) : List Key := [(some 37, .move (.tmp 5), none), (some 38, .binOp .sub ti (.tmp 37) (.const (.int .i64 1)) ti, none), (some 5, .assign (.tmp 38), none)]
def k10 (tm ts ti tb : TypeId) : List Key := [(some 39, .move (.tmp 3), none), (some 40, .move (.tmp 5), none), (some 41, .move (.tmp 4), none), (some 42, .indexAddr ts (.tmp 39) (.tmp 40), none), (none, .store ti (.tmp 42) (.tmp 41), none)]
def k11 (tm ts ti tb : TypeId) : List Key := [(some 43, .move (.tmp 3), none), (some 2, .assign (.tmp 43), none)]
section
variable {P : Program} {ops : Array Oper} {ks : List Key} {Q : Exit → Act → World → Prop} {next : Act → World → Prop} {a : Act} {w : World}
theorem key_at (hk : ops.toList.map keyO = ks) {i : Nat} {k : Key} (hi : ks[i]? = some k) : ∃ o, ops[i]? = some o ∧ o.dst = k.1 ∧ o.op = k.2.1 ∧ o.guard = k.2.2 := by
  subst hk
  rw [List.getElem?_map] at hi
  cases h : ops.toList[i]? with
  | none => rw [h] at hi; simp at hi
  | some o =>
    rw [h] at hi
    simp only [Option.map_some, Option.some.injEq] at hi
    subst hi
    exact ⟨o, by simpa using h, rfl, rfl, rfl⟩
theorem w1 (hk : ops.toList.map keyO = ks) {i : Nat} {d : Option Tmp} {op : Op} (hi : ks[i]? = some (d, op, none)) {c : Value} {w' : World} (hr : ∀ o : Oper, o.op = op → (execOp a.eval o).run P w = .ok (.value c) w') (hn : next (a.put d c) w') : wpOp P ops Q i next a w := by
  obtain ⟨o, h1, h2, h3, h4⟩ := key_at hk hi
  unfold wpOp
  simp only [h1]
  rw [show Region.wanted o (yielded ops a.tmps) = true by simp [Region.wanted, h4]]
  simp only [if_true]
  left
  unfold Oper.wp
  rw [hr o h3, Oper.upon_value, h2]
  exact hn
theorem w1s (hk : ops.toList.map keyO = ks) {i : Nat} {d : Option Tmp} {op : Op} (hi : ks[i]? = some (d, op, none)) {w' : World} (hr : ∀ o : Oper, o.op = op → (execOp a.eval o).run P w = .ok .skip w') (hn : next (a.put d undef) w') : wpOp P ops Q i next a w := by
  obtain ⟨o, h1, h2, h3, h4⟩ := key_at hk hi
  unfold wpOp
  simp only [h1]
  rw [show Region.wanted o (yielded ops a.tmps) = true by simp [Region.wanted, h4]]
  simp only [if_true]
  left
  unfold Oper.wp
  rw [hr o h3, Oper.upon_skip, h2]
  exact hn
theorem yld (hk : ops.toList.map keyO = ks) {j t : Nat} {k : Key} (hj : ks[j]? = some k) (hd : k.1 = some t) {x : Bool} (hx : a.tmps.getD t undef = .bool x) : yielded ops a.tmps j = some x := by
  obtain ⟨o, h1, h2, _, _⟩ := key_at hk hj
  have hget : a.tmps[t]? = some (.bool x) := by
    rw [Array.getD_eq_getD_getElem?] at hx
    cases hq : a.tmps[t]? with
    | none => rw [hq] at hx; simp [undef] at hx
    | some v => rw [hq] at hx; simp at hx; rw [hx]
  simp [yielded, h1, h2, hd, hget]
theorem w1g (hk : ops.toList.map keyO = ks) {i j t : Nat} {d : Option Tmp} {op : Op} {b : Bool} {k : Key} (hi : ks[i]? = some (d, op, some (j, b))) (hj : ks[j]? = some k) (hd : k.1 = some t) (hx : a.tmps.getD t undef = .bool b)
    {c : Value} {w' : World} (hr : ∀ o : Oper, o.op = op → (execOp a.eval o).run P w = .ok (.value c) w') (hn : next (a.put d c) w') : wpOp P ops Q i next a w := by
  obtain ⟨o, h1, h2, h3, h4⟩ := key_at hk hi
  unfold wpOp
  simp only [h1]
  have hy := yld hk hj hd hx
  rw [show Region.wanted o (yielded ops a.tmps) = true by simp [Region.wanted, h4, hy]]
  simp only [if_true]
  left
  unfold Oper.wp
  rw [hr o h3, Oper.upon_value, h2]
  exact hn
theorem w0g (hk : ops.toList.map keyO = ks) {i j t : Nat} {d : Option Tmp} {op : Op} {b x : Bool} {k : Key} (hi : ks[i]? = some (d, op, some (j, b))) (hj : ks[j]? = some k) (hd : k.1 = some t) (hx : a.tmps.getD t undef = .bool x) (hb : x ≠ b)
    (hn : next (a.put d (.tuple #[])) w) : wpOp P ops Q i next a w := by
  obtain ⟨o, h1, h2, h3, h4⟩ := key_at hk hi
  unfold wpOp
  simp only [h1]
  have hy := yld hk hj hd hx
  rw [show Region.wanted o (yielded ops a.tmps) = false by cases x <;> cases b <;> simp_all [Region.wanted]]
  simp only [Bool.false_eq_true, if_false]
  rw [h2]
  exact hn
theorem wRgn {id : Nat} (hk : ops.toList.map keyO = ks) (h : wpOps P ops Q (List.range' 0 ks.length) a w) : (Code.region id ops false).wp P Q a w := by
  refine wp_region ?_
  have hl : ops.size = ks.length := by rw [← hk]; simp
  rw [List.range_eq_range', hl]
  exact h
structure TF (a : Act) (l : List (Nat × Value)) : Prop where
  df : a.defers = []
  sz : 44 ≤ a.tmps.size
  at_ : ∀ t v, (t, v) ∈ l → a.tmps.getD t undef = v
theorem TF.put {l : List (Nat × Value)} (h : TF a l) {d : Nat} (hd : d < 44) (c : Value) : TF (a.put (some d) c) ((d, c) :: l.filter fun p => !(p.1 == d)) := by
  refine ⟨by rw [put_defers]; exact h.df, by rw [put_size]; exact h.sz, fun t v hm => ?_⟩
  rcases List.mem_cons.1 hm with e | hm
  · cases e
    exact put_get_same (Nat.lt_of_lt_of_le hd h.sz)
  · simp only [List.mem_filter, Bool.not_eq_true', beq_eq_false_iff_ne] at hm
    rw [put_get (by simpa using fun e => hm.2 (Eq.symm e))]
    exact h.at_ t v hm.1
theorem TF.put0 {l : List (Nat × Value)} (h : TF a l) (c : Value) : TF (a.put none c) l := h
theorem TF.sub {l m : List (Nat × Value)} (h : TF a l) (hm : ∀ p ∈ m, p ∈ l) : TF a m := ⟨h.df, h.sz, fun t v hv => h.at_ t v (hm _ hv)⟩
theorem TF.ev {l : List (Nat × Value)} (h : TF a l) {t : Nat} {v : Value} (hm : (t, v) ∈ l) : a.eval (.tmp t) = v := h.at_ t v hm
end
end Eng
namespace Eng
open Go Go.ChangeMaps
section
variable {P : Program}
theorem nextI (w : World) (ty : TypeId) (r bm : Nat) (seen : Array Nat) (es : Array MapEntry) (clock : Nat) (hi : w.heap[r]? = some (.mapIter (some bm) clock seen clock)) (hb : w.heap[bm]? = some (.map es clock)) (hold : ∀ x ∈ es.toList, x.born < clock) :
    ((leftOf es seen).size = 0 ∧ (Instr.next (.pointer (some ⟨r, 0, none⟩)) false ty).run P w = .ok (.tuple #[.bool false]) w) ∨
    ∃ e ∈ (leftOf es seen).toList, ∃ w1 : World, (w1 = w ∨ w1 = w.drew) ∧ (Instr.next (.pointer (some ⟨r, 0, none⟩)) false ty).run P w = .ok (.tuple #[.bool true, e.key, e.val]) (setBlock w1 r (.mapIter (some bm) clock (seen.push e.born) clock)) := by
  simp only [Instr.next, getObj, Sem.run_bind, Sem.run, hi, hb, Result.andThen, next_test_false seen es clock clock hold (Nat.le_refl _), Bool.false_eq_true, if_false]
  unfold leftOf
  have hmem : ∀ x ∈ (Array.filter (fun e => !seen.contains e.born) es).toList, x.born < clock := fun x hx => hold x (by simp at hx ⊢; exact hx.1)
  generalize Array.filter (fun e => !seen.contains e.born) es = L at hmem ⊢
  have e1 : L.filter (fun x => decide (x.born < clock)) = L := Array.filter_eq_self.2 (fun x hx => by simpa using hmem x (by simpa using hx))
  have e2 : L.filter (fun x => decide (x.born ≥ clock)) = #[] := by
    rw [Array.filter_eq_empty_iff]
    intro x hx
    have := hmem x (by simpa using hx)
    simp
    omega
  simp only [e1, e2, Array.append_empty]
  by_cases h0 : L.size = 0
  · left
    have : L = #[] := Array.eq_empty_of_size_eq_zero h0
    subst this
    refine ⟨rfl, ?_⟩
    simp [choose, Sem.run, Question.forced]
  · right
    have hne : L.isEmpty = false := by simp [Array.isEmpty, h0]
    simp only [hne, Bool.false_eq_true, if_false, Array.empty_append, Array.size_map]
    have hch : ∃ (j : Nat) (w1 : World), j < L.size ∧ (w1 = w ∨ w1 = w.drew) ∧ (choose (Question.mapNext L.size)).run P w = .ok j w1 := by
      by_cases hf : L.size ≤ 1
      · exact ⟨0, w, by omega, .inl rfl, by simp [choose, Sem.run, Question.forced, hf]⟩
      · exact ⟨_, w.drew, Nat.mod_lt _ (by omega), .inr rfl, by
          simp only [choose, Sem.run, Question.forced, decide_eq_true_eq, hf, if_false, Question.cut]
          rfl⟩
    obtain ⟨j, w1, hj, hal, hrun⟩ := hch
    refine ⟨L[j], by simp, w1, hal, ?_⟩
    have hi1 : w1.heap[r]? = some (.mapIter (some bm) clock seen clock) := by rcases hal with rfl | rfl <;> exact hi
    have hset : ∀ (o' : Go.Obj), (setObj r o').run P w1 = .ok () (setBlock w1 r o') := fun o' => by
      simp only [setObj, Sem.run]
      rw [hi1]
      rfl
    simp only [hrun, Array.getElem?_map, Array.getElem?_eq_getElem hj, Option.map_some, Sem.run_bind, hset, Result.andThen]
    rfl
theorem entryI (w : World) (r bm : Nat) (seen : Array Nat) (es : Array MapEntry) (clock : Nat) (e : MapEntry) (hi : w.heap[r]? = some (.mapIter (some bm) clock (seen.push e.born) clock)) (hb : w.heap[bm]? = some (.map es clock)) (he : e ∈ es.toList) (hn : (es.toList.map (·.born)).Nodup) :
    (Instr.entry (.pointer (some ⟨r, 0, none⟩))).run P w = .ok (.tuple #[e.key, e.val]) w := by
  have hf : es.find? (·.born == e.born) = some e := by rw [← Array.find?_toList]; exact find_born e es.toList hn he
  simp only [Instr.entry, getObj, Sem.run_bind, Sem.run, hi, hb, Result.andThen, Array.back?_push, bne_self_eq_false, Bool.false_eq_true, if_false, hf]
  rfl
end
end Eng

set_option maxHeartbeats 4000000
namespace Eng
open Go Go.ChangeMaps
section
variable {X : Ctx} {ops : Array Oper} {ks : List Key} {Q : Exit → Act → World → Prop} {a : Act} {w : World} {F : List (Nat × Value)} {rest : List Nat}
theorem sv (hk : ops.toList.map keyO = ks) (hT : TF a F) {i d : Nat} {op : Op} (hi : ks[i]? = some (some d, op, none)) (hd : d < 44) {c : Value} {w' : World} (hr : ∀ o : Oper, o.op = op → (execOp a.eval o).run X.P w = .ok (.value c) w')
    (hn : ∀ a', TF a' ((d, c) :: F.filter fun p => !(p.1 == d)) → wpOps X.P ops Q rest a' w') : wpOps X.P ops Q (i :: rest) a w := by
  rw [wpOps_cons]
  exact w1 hk hi hr (hn _ (hT.put hd c))
theorem svs (hk : ops.toList.map keyO = ks) (hT : TF a F) {i : Nat} {op : Op} (hi : ks[i]? = some (none, op, none)) {w' : World} (hr : ∀ o : Oper, o.op = op → (execOp a.eval o).run X.P w = .ok .skip w')
    (hn : ∀ a', TF a' F → wpOps X.P ops Q rest a' w') : wpOps X.P ops Q (i :: rest) a w := by
  rw [wpOps_cons]
  exact w1s hk hi hr (hn _ (hT.put0 undef))
theorem svg (hk : ops.toList.map keyO = ks) (hT : TF a F) {i j t d : Nat} {op : Op} {b : Bool} {k : Key} (hi : ks[i]? = some (some d, op, some (j, b))) (hj : ks[j]? = some k) (ht : k.1 = some t) (hx : (t, .bool b) ∈ F) (hd : d < 44) {c : Value} {w' : World} (hr : ∀ o : Oper, o.op = op → (execOp a.eval o).run X.P w = .ok (.value c) w')
    (hn : ∀ a', TF a' ((d, c) :: F.filter fun p => !(p.1 == d)) → wpOps X.P ops Q rest a' w') : wpOps X.P ops Q (i :: rest) a w := by
  rw [wpOps_cons]
  exact w1g hk hi hj ht (hT.at_ _ _ hx) hr (hn _ (hT.put hd c))
theorem sv0 (hk : ops.toList.map keyO = ks) (hT : TF a F) {i j t d : Nat} {op : Op} {b x : Bool} {k : Key} (hi : ks[i]? = some (some d, op, some (j, b))) (hj : ks[j]? = some k) (ht : k.1 = some t) (hx : (t, .bool x) ∈ F) (hb : x ≠ b) (hd : d < 44)
    (hn : ∀ a', TF a' ((d, .tuple #[]) :: F.filter fun p => !(p.1 == d)) → wpOps X.P ops Q rest a' w) : wpOps X.P ops Q (i :: rest) a w := by
  rw [wpOps_cons]
  exact w0g hk hi hj ht (hT.at_ _ _ hx) hb (hn _ (hT.put hd _))
theorem sN (h : Q .normal a w) : wpOps X.P ops Q [] a w := h
structure TyS (X : Ctx) (tm ts ti : TypeId) : Prop where
  hm : ∃ k e, X.P.underlying tm = some (.map k e)
  hs : X.P.underlying ts = some (.slice ti)
  sz : szIs X ti 1 = true
  ag : aggIs X ti false = true
  inf : ∃ i z, X.P.info? ti = some i ∧ i.zero = some z ∧ z.cells.size = 1 ∧ i.size = 1 ∧ i.bytes ≤ 32768
variable {tm ts ti : TypeId}
theorem o_mov (hT : TF a F) {t : Nat} {v : Value} (hm : (t, v) ∈ F) : ∀ o : Oper, o.op = .move (.tmp t) → (execOp a.eval o).run X.P w = .ok (.value v) w := by
  intro o ho; simp [execOp, ho, hT.ev hm]
theorem o_asg (hT : TF a F) {t : Nat} {v : Value} (hm : (t, v) ∈ F) : ∀ o : Oper, o.op = .assign (.tmp t) → (execOp a.eval o).run X.P w = .ok (.value v) w := by
  intro o ho; simp [execOp, ho, hT.ev hm]
theorem o_asgc {v : Value} : ∀ o : Oper, o.op = .assign (.const v) → (execOp a.eval o).run X.P w = .ok (.value v) w := by
  intro o ho; simp [execOp, ho, Act.eval]
theorem o_ext (hT : TF a F) {t i : Nat} {arr : Array Value} {v : Value} (hm : (t, .tuple arr) ∈ F) (hv : arr[i]? = some v) : ∀ o : Oper, o.op = .extract (.tmp t) i → (execOp a.eval o).run X.P w = .ok (.value v) w := by
  intro o ho
  simp [execOp, ho, hT.ev hm, Instr.extract, hv]
theorem o_len (hT : TF a F) (hY : TyS X tm ts ti) {t : Nat} {b : Option Addr} {n c : Nat} (hm : (t, .slice b n c) ∈ F) : ∀ o : Oper, o.op = .call { callee := .builtin .len, args := #[.tmp t], argTypes := #[ts] } → (execOp a.eval o).run X.P w = .ok (.value (.int .i64 n)) w := by
  intro o ho
  rw [exec_builtin ho]
  simp [builtin, Builtin.len_, run_underlying hY.hs, hT.ev hm, goInt]
theorem o_gtr {x y : Operand} {m n : Int} (hx : a.eval x = .int .i64 m) (hy : a.eval y = .int .i64 n) : ∀ o : Oper, o.op = .binOp .gtr ti x y ti → (execOp a.eval o).run X.P w = .ok (.value (.bool (decide (m > n)))) w := by
  intro o ho
  obtain ⟨p, h0, h1, _⟩ := bin_key (P := X.P) (w := w) (K := fun _ => 0) (op := .gtr) ti (k := .i64) (k' := .i64) (n := m) (m := n) (v := .pl (.bool (decide (m > n)))) (by simp [binEv])
  obtain rfl : p = .bool (decide (m > n)) := by simpa using h0.symm
  simp only [execOp, ho, hx, hy, Sem.run_bind, run_eqGuard_int, Result.andThen_ok, h1, Sem.run_pure]
  rfl
theorem o_sub {x y : Operand} {m n : Int} (hx : a.eval x = .int .i64 m) (hy : a.eval y = .int .i64 n) (hw : IntKind.wrap .i64 (m - n) = m - n) : ∀ o : Oper, o.op = .binOp .sub ti x y ti → (execOp a.eval o).run X.P w = .ok (.value (.int .i64 (m - n))) w := by
  intro o ho
  obtain ⟨p, h0, h1, _⟩ := bin_key (P := X.P) (w := w) (K := fun _ => 0) (op := .sub) ti (k := .i64) (k' := .i64) (n := m) (m := n) (v := .pl (.int .i64 (m - n))) (by simp [binEv, hw])
  obtain rfl : p = .int .i64 (m - n) := by simpa using h0.symm
  simp only [execOp, ho, hx, hy, Sem.run_bind, run_eqGuard_int, Result.andThen_ok, h1, Sem.run_pure]
  rfl
theorem o_pick {c x y : Operand} {b : Bool} (hc : a.eval c = .bool b) : ∀ o : Oper, o.op = .pick c x y → (execOp a.eval o).run X.P w = .ok (.value (if b then a.eval x else a.eval y)) w := by
  intro o ho
  simp [execOp, ho, hc, asBool]
theorem o_idx (hT : TF a F) (hY : TyS X tm ts ti) {x y : Nat} {b n c : Nat} {i : Int} (hx : (x, .slice (some ⟨b, 0, none⟩) n c) ∈ F) (hy : (y, .int .i64 i) ∈ F) (h0 : 0 ≤ i) (h1 : i < n) :
    ∀ o : Oper, o.op = .indexAddr ts (.tmp x) (.tmp y) → (execOp a.eval o).run X.P w = .ok (.value (.pointer (some ⟨b, i.toNat, none⟩))) w := by
  intro o ho
  simp only [execOp, ho, hT.ev hx, hT.ev hy, Instr.indexAt, asIntOf, Sem.run_bind, Sem.run_pure, Result.andThen_ok, run_underlying hY.hs, h0, h1, and_self, if_true, run_size hY.sz, add_off]
  simp
theorem o_load (hT : TF a F) (hY : TyS X tm ts ti) {x b i : Nat} {cur : Array Value} {T : TypeId} {fr : Nat × Nat} {c : Value} (hx : (x, .pointer (some ⟨b, i, none⟩)) ∈ F) (hb : w.heap[b]? = some (Go.Obj.cells cur T fr)) (hc : cur[i]? = some c) :
    ∀ o : Oper, o.op = .load ti (.tmp x) → (execOp a.eval o).run X.P w = .ok (.value c) w := by
  intro o ho
  simp only [execOp, ho, hT.ev hx, Instr.loadAt, Instr.sureAddr, Sem.run_bind, Sem.run_pure, Result.andThen_ok, run_loadVar_one hY.ag hb hc]
theorem o_store (hT : TF a F) (hY : TyS X tm ts ti) {x y b i : Nat} {cur : Array Value} {T : TypeId} {n : Int} (hx : (x, .pointer (some ⟨b, i, none⟩)) ∈ F) (hy : (y, .int .i64 n) ∈ F) (hb : w.heap[b]? = some (Go.Obj.cells cur T (0, 0))) (hi : i < cur.size) :
    ∀ o : Oper, o.op = .store ti (.tmp x) (.tmp y) → (execOp a.eval o).run X.P w = .ok .skip (w.setRow b (cur.toList.take i ++ [Value.int .i64 n] ++ cur.toList.drop (i + 1)).toArray) := by
  intro o ho
  have h := run_storeVar (X := X) (w := w) (n := 1) (c := .int .i64 n) hY.sz rfl hb (show i + 1 ≤ cur.size by omega) (by intro v hv; simp [Value.cells] at hv; subst hv; rfl)
  rw [show (Value.int .i64 n).cells.toList = [.int .i64 n] from rfl] at h
  simp only [execOp, ho, hT.ev hx, hT.ev hy, Instr.storeAt, Instr.sureAddr, Sem.run_bind, Sem.run_pure, Result.andThen_ok, h]
theorem o_one (hT : TF a F) (hY : TyS X tm ts ti) {x : Nat} {n : Int} (hx : (x, .int .i64 n) ∈ F) :
    ∀ o : Oper, o.op = .buildSlice ts 1 #[(0, .tmp x)] → (execOp a.eval o).run X.P w = .ok (.value (.slice (some ⟨w.heap.size, 0, none⟩) 1 1)) (w.alloc (.cells #[.int .i64 n] ti)) := by
  intro o ho
  obtain ⟨i, z, hi, hz, hzs, _, _⟩ := hY.inf
  simp only [execOp, ho, Instr.buildSlice, Sem.run_bind, run_underlying hY.hs, Result.andThen_ok, run_size hY.sz, Sem.run_pure, zeroValue, typeInfo, run_program, hi, hz, newRow, run_newObj]
  simp [Instr.fill, hT.ev hx, Value.cells, newRow, run_newObj, Sem.run_bind, hi, hz, run_program]
  have h : ∀ f : Nat → Value, (Array.map f (Array.range 1)).setIfInBounds 0 (Value.int .i64 n) = #[Value.int .i64 n] := fun f => by
    apply Array.toList_inj.1
    simp [Array.range]
  exact congrArg (fun r => w.alloc (Go.Obj.cells r ti)) (h _)
end
end Eng

namespace Eng
open Go Go.ChangeMaps
abbrev vI (n : Int) : Value := .int .i64 n
structure Wst (w0 w : World) (bm r : Nat) (es : Array MapEntry) (clock : Nat) (seen : Array Nat) : Prop where
  os : w.os = w0.os
  tape : w.tape = w0.tape
  output : w.output = w0.output
  old : ∀ b, b < w0.heap.size → w.heap[b]? = w0.heap[b]?
  size : w0.heap.size ≤ w.heap.size
  rr : w0.heap.size ≤ r
  it : w.heap[r]? = some (.mapIter (some bm) clock seen clock)
def Cells (w : World) (b : Nat) (cs : List Int) (cap : Nat) : Prop := ∃ T tail, w.heap[b]? = some (Go.Obj.cells (cs.map vI ++ tail).toArray T (0, 0)) ∧ cs.length + tail.length = cap
def Sl (w0 w : World) (r : Nat) (cs : List Int) (c : Value) : Prop := (cs = [] ∧ c = .slice none 0 0) ∨ ∃ b cap, c = .slice (some ⟨b, 0, none⟩) cs.length cap ∧ w0.heap.size ≤ b ∧ b ≠ r ∧ Cells w b cs cap
section
variable {X : Ctx} {w0 w : World} {bm r : Nat} {es : Array MapEntry} {clock : Nat} {seen : Array Nat}
theorem Wst.lt (h : Wst w0 w bm r es clock seen) : r < w.heap.size := by
  have := h.it
  exact (Array.getElem?_eq_some_iff.1 this).1
theorem Wst.alloc (h : Wst w0 w bm r es clock seen) (o : Go.Obj) : Wst w0 (w.alloc o) bm r es clock seen :=
  ⟨h.os, h.tape, h.output, fun b hb => by rw [heap_alloc_old w o (by have := h.size; omega)]; exact h.old b hb, by have := h.size; simp; omega, h.rr, by rw [heap_alloc_old w o h.lt]; exact h.it⟩
theorem Wst.drew (h : Wst w0 w bm r es clock seen) : Wst w0 w.drew bm r es clock seen := ⟨h.os, h.tape, h.output, h.old, h.size, h.rr, h.it⟩
theorem Wst.row (h : Wst w0 w bm r es clock seen) {b : Nat} (hb : w0.heap.size ≤ b) (hr : b ≠ r) (cs : Array Value) : Wst w0 (w.setRow b cs) bm r es clock seen :=
  ⟨h.os, h.tape, h.output, fun b' hb' => by rw [setRow_ne w b b' cs (by omega)]; exact h.old b' hb', by simp; exact h.size, h.rr, by rw [setRow_ne w b r cs (Ne.symm hr)]; exact h.it⟩
theorem Wst.iter (h : Wst w0 w bm r es clock seen) (seen' : Array Nat) : Wst w0 (setBlock w r (.mapIter (some bm) clock seen' clock)) bm r es clock seen' :=
  ⟨h.os, h.tape, h.output, fun b' hb' => by rw [setBlock_ne _ (by have := h.rr; omega)]; exact h.old b' hb', by simp [setBlock]; exact h.size, h.rr, by simp [setBlock, h.lt]⟩
theorem Sl.iter {cs : List Int} {c : Value} (h : Sl w0 w r cs c) (o : Go.Obj) : Sl w0 (setBlock w r o) r cs c := by
  rcases h with h | ⟨b, cap, h1, h2, h3, T, tail, h4, h5⟩
  · exact .inl h
  · exact .inr ⟨b, cap, h1, h2, h3, T, tail, by rw [setBlock_ne _ h3]; exact h4, h5⟩
theorem Sl.alloc {cs : List Int} {c : Value} (h : Sl w0 w r cs c) (o : Go.Obj) : Sl w0 (w.alloc o) r cs c := by
  rcases h with h | ⟨b, cap, h1, h2, h3, T, tail, h4, h5⟩
  · exact .inl h
  · exact .inr ⟨b, cap, h1, h2, h3, T, tail, by rw [heap_alloc_old w o (Array.getElem?_eq_some_iff.1 h4).1]; exact h4, h5⟩
theorem Sl.drew {cs : List Int} {c : Value} (h : Sl w0 w r cs c) : Sl w0 w.drew r cs c := h
theorem rr_to {K : Kom} : ∀ {cs : List Int} {tail : List Value}, RelRows K w 1 (rowsK cs) (cs.map vI ++ tail)
  | [], tail => by simp [rowsK, RelRows]
  | n :: cs, tail => by
    simp only [rowsK, RelRows, List.map_cons, List.cons_append, List.drop_succ_cons, List.drop_zero]
    exact ⟨rfl, ⟨_, _, rfl, by simp [RelP, vI], trivial⟩, rr_to⟩
theorem rr_of {K : Kom} : ∀ {cs : List Int} {l : List Value}, RelRows K w 1 (rowsK cs) l → ∃ tail, l = cs.map vI ++ tail
  | [], l, _ => ⟨l, rfl⟩
  | n :: cs, l, h => by
    simp only [rowsK, RelRows] at h
    obtain ⟨_, ⟨c, l', rfl, h1, _⟩, h2⟩ := h
    obtain ⟨tail, ht⟩ := rr_of h2
    simp only [List.drop_succ_cons, List.drop_zero] at ht
    refine ⟨tail, ?_⟩
    simp only [RelP] at h1
    rw [h1, ht]
    rfl
theorem rowsK_app : ∀ {a b : List Int}, rowsK (a ++ b) = rowsK a ++ rowsK b
  | [], b => rfl
  | n :: a, b => by simp only [List.cons_append, rowsK, rowsK_app]
theorem app_one {tm ts ti : TypeId} (hY : TyS X tm ts ti) {cs : List Int} {c : Value} {n : Int} (h32 : cs.length + 1 < 2 ^ 32) (h : Wst w0 w bm r es clock seen) (hs : Sl w0 w r cs c) {a : Act} {F : List (Nat × Value)} (hT : TF a F) {x y : Nat}
    (hx : (x, c) ∈ F) (hy : (y, .slice (some ⟨w.heap.size, 0, none⟩) 1 1) ∈ F) :
    ∃ b cap w', (∀ o : Oper, o.op = .call { callee := .builtin .append, args := #[.tmp x, .tmp y], argTypes := #[ts, ts] } → (execOp a.eval o).run X.P (w.alloc (.cells #[.int .i64 n] ti)) = .ok (.value (.slice (some ⟨b, 0, none⟩) (cs.length + 1) cap)) w') ∧
      Wst w0 w' bm r es clock seen ∧ w0.heap.size ≤ b ∧ b ≠ r ∧ Cells w' b (cs ++ [n]) cap := by
  have h1 := h.alloc (.cells #[.int .i64 n] ti)
  have hs1 := hs.alloc (.cells #[.int .i64 n] ti)
  have hb2 : (w.alloc (.cells #[.int .i64 n] ti)).heap[w.heap.size]? = some (.cells #[.int .i64 n] ti (0, 0)) := heap_alloc_new w _
  generalize hw1 : w.alloc (.cells #[.int .i64 n] ti) = w1 at *
  obtain ⟨i, z, hi, hz, hzs, hsz, hby⟩ := hY.inf
  have key := fun (ty : TypeId) => app_core (w := w1) (K := updK (fun _ => 0) w.heap.size 1) (P := X.P) (t := ts) (t2 := ts) (ty := ty) (sz := 1) (rows := rowsK cs) (ys := rowsK [n]) (c1 := c) (c2 := .slice (some ⟨w.heap.size, 0, none⟩) 1 1) hY.hs hY.hs hi hz hzs hsz hby
    (by rw [rowsK_len, rowsK_len]; simpa using h32)
    (by
      rcases hs1 with ⟨rfl, rfl⟩ | ⟨b, cap, rfl, h2, h3, T, tail, h4, h5⟩
      · exact .inl ⟨rfl, rfl⟩
      · refine .inr ⟨b, cap, _, T, by rw [rowsK_len], h4, by simp [h5], by rw [rowsK_len]; omega, rr_to⟩)
    (by
      simp only [RelP, rowsK, List.length_cons, List.length_nil]
      refine ⟨_, 1, rfl, by omega, .inr ⟨w.heap.size, 0, _, _, _, rfl, hb2, by rw [updK_same]; omega, by rw [updK_same]; simp, ?_⟩⟩
      exact rr_to (cs := [n]) (tail := []))
  have hrun : ∀ o : Oper, o.op = .call { callee := .builtin .append, args := #[.tmp x, .tmp y], argTypes := #[ts, ts] } → ∀ c' w', (Builtin.append_ #[ts, ts] o.type #[c, .slice (some ⟨w.heap.size, 0, none⟩) 1 1]).run X.P w1 = .ok c' w' → (execOp a.eval o).run X.P w1 = .ok (.value c') w' := by
    intro o ho c' w' hr
    rw [exec_builtin ho]
    simp only [builtin, List.map_toArray, List.map_cons, List.map_nil, hT.ev hx, hT.ev hy, Sem.run_bind, hr, Result.andThen_ok, Sem.run_pure]
  have hone : ∀ ty ty', (Builtin.append_ #[ts, ts] ty #[c, .slice (some ⟨w.heap.size, 0, none⟩) 1 1]) = (Builtin.append_ #[ts, ts] ty' #[c, .slice (some ⟨w.heap.size, 0, none⟩) 1 1]) := by
    intro ty ty'; rfl
  obtain ⟨c', w', hr, hcase⟩ := key 0
  rcases hcase with ⟨h0, _⟩ | ⟨b, cap, cur, T, rfl, hb, hsz', hle, hrel, hw⟩
  · simp [rowsK] at h0
  · rw [← rowsK_app] at hrel
    obtain ⟨tail, ht⟩ := rr_of hrel
    have hlen : (cs ++ [n]).length + tail.length = cap := by
      have := congrArg List.length ht
      simp at this hsz' ⊢
      omega
    have hbr : w0.heap.size ≤ b ∧ b ≠ r ∧ Wst w0 w' bm r es clock seen := by
      rcases hw with ⟨e1, rfl, _⟩ | ⟨rfl, rfl⟩
      · rcases hs1 with ⟨_, rfl⟩ | ⟨b', cap', rfl, h2, h3, _⟩
        · simp [blkV] at e1
        · simp only [blkV, Option.some.injEq] at e1
          subst e1
          exact ⟨h2, h3, h1.row h2 h3 cur⟩
      · exact ⟨h1.size, by have := h1.lt; omega, h1.drew.alloc _⟩
    refine ⟨b, cap, w', fun o ho => ?_, hbr.2.2, hbr.1, hbr.2.1, T, tail, ?_, hlen⟩
    · have := hrun o ho _ w' (by rw [hone o.type 0]; exact hr)
      rw [this, rowsK_len]
      simp [rowsK]
    · rw [hb]
      congr 2
      apply Array.toList_inj.1
      rw [ht]
end
end Eng

namespace Eng
open Go Go.ChangeMaps
def sortedCode (o0 o1 o2 o3 o4 o5 o6 o7 o8 o9 o10 o11 : Array Oper) : Code :=
  .seq (.region 0 o0 false) (.seq (.region 1 o1 false) (.seq (.seq (.region 2 o2 false)
    (.block 0 (.loop (.seq (.region 3 o3 false) (.seq (.cond (.tmp 9) .skip (.exit 0))
      (.block 1 (.seq (.region 4 o4 false) (.seq (.region 5 o5 false) (.seq (.region 6 o6 false)
        (.seq (.block 2 (.loop (.seq (.seq (.region 7 o7 false) (.cond (.tmp 28) .skip (.exit 2))) (.block 3 (.seq (.region 8 o8 false) (.region 9 o9 false))))))
          (.region 10 o10 false)))))))))))
    (.seq (.region 11 o11 false) .ret)))
section
variable {X : Ctx} {w0 w : World} {bm r : Nat} {es : Array MapEntry} {clock : Nat} {seen : Array Nat} {tm ts ti tb : TypeId} {Q : Exit → Act → World → Prop} {a : Act}
theorem wrapI {m : Int} (h1 : -2 ^ 62 ≤ m) (h2 : m ≤ 2 ^ 62) : IntKind.wrap .i64 m = m := by
  have e1 : IntKind.signed .i64 = true := rfl
  have e2 : IntKind.bits .i64 = 64 := rfl
  unfold IntKind.wrap
  simp only [e1, e2]
  simp
  omega
abbrev itP (r : Nat) : Value := .pointer (some ⟨r, 0, none⟩)
abbrev slP (b n cap : Nat) : Value := .slice (some ⟨b, 0, none⟩) n cap
def lookF : List (Nat × Value) → Nat → Option Value
  | [], _ => none
  | (k, v) :: l, t => bif Nat.beq k t then some v else lookF l t
theorem lm : ∀ {F : List (Nat × Value)} {t : Nat} {v : Value}, lookF F t = some v → (t, v) ∈ F
  | [], _, _, h => by simp [lookF] at h
  | (k, u) :: l, t, v, h => by
    simp only [lookF] at h
    cases hb : Nat.beq k t with
    | true =>
      rw [hb] at h
      simp only [cond_true, Option.some.injEq] at h
      rw [Nat.eq_of_beq_eq_true hb, h]
      exact List.mem_cons_self ..
    | false =>
      rw [hb] at h
      exact List.mem_cons_of_mem _ (lm h)
theorem get_mid {pre suf : List Int} {x : Int} {tail : List Value} {l : List Value} (hl : l = (pre ++ x :: suf).map vI ++ tail) : l[pre.length]? = some (vI x) := by
  subst hl
  simp
theorem set_mid {pre suf : List Int} {x y : Int} {tail : List Value} : ((pre ++ x :: suf).map vI ++ tail).take pre.length ++ [vI y] ++ ((pre ++ x :: suf).map vI ++ tail).drop (pre.length + 1) = (pre ++ y :: suf).map vI ++ tail := by
  have e1 : ((pre ++ x :: suf).map vI ++ tail) = pre.map vI ++ (vI x :: (suf.map vI ++ tail)) := by simp
  rw [e1, List.take_left' (by simp), show pre.length + 1 = (pre.map vI).length + 1 by simp, ← List.drop_drop, List.drop_left]
  simp
theorem reg7 {o7 : Array Oper} (hk : o7.toList.map keyO = k7 tm ts ti tb) (hY : TyS X tm ts ti) {b cap m : Nat} {n : Int} {pre suf : List Int} {x : Int} {tail : List Value} {T : TypeId} (hm : m = (pre ++ x :: suf).length) (hlen : pre.length < 2 ^ 32)
    (hT : TF a [(3, slP b m cap), (4, vI n), (5, vI pre.length), (7, itP r)]) (hb : w.heap[b]? = some (Go.Obj.cells (((pre ++ x :: suf).map vI ++ tail).toArray) T (0, 0)))
    (hn : ∀ a', TF a' [(28, .bool (match pre.getLast? with | some y => decide (y > n) | none => false)), (3, slP b m cap), (4, vI n), (5, vI pre.length), (7, itP r)] → Q .normal a' w) : (Code.region 7 o7 false).wp X.P Q a w := by
  refine wRgn hk ?_
  rw [show List.range' 0 (k7 tm ts ti tb).length = [0, 1, 2, 3, 4, 5, 6, 7, 8, 9, 10] from rfl]
  refine sv hk hT rfl (by omega) (o_mov hT (t := 5) (lm rfl)) fun a1 h1 => ?_
  refine sv hk h1 rfl (by omega) (o_gtr (m := pre.length) (n := 0) (h1.ev (lm rfl)) rfl) fun a2 h2 => ?_
  refine sv hk h2 rfl (by omega) (o_mov h2 (t := 19) (lm rfl)) fun a3 h3 => ?_
  rcases List.eq_nil_or_concat pre with rfl | ⟨p', y, rfl⟩
  · refine sv0 hk h3 (j := 2) (b := true) (x := false) rfl rfl rfl (by simp) (by simp) (by omega) fun a4 h4 => ?_
    refine sv0 hk h4 (j := 2) (b := true) (x := false) rfl rfl rfl (by simp) (by simp) (by omega) fun a5 h5 => ?_
    refine sv0 hk h5 (j := 2) (b := true) (x := false) rfl rfl rfl (by simp) (by simp) (by omega) fun a6 h6 => ?_
    refine sv0 hk h6 (j := 2) (b := true) (x := false) rfl rfl rfl (by simp) (by simp) (by omega) fun a7 h7 => ?_
    refine sv0 hk h7 (j := 2) (b := true) (x := false) rfl rfl rfl (by simp) (by simp) (by omega) fun a8 h8 => ?_
    refine sv0 hk h8 (j := 2) (b := true) (x := false) rfl rfl rfl (by simp) (by simp) (by omega) fun a9 h9 => ?_
    refine sv0 hk h9 (j := 2) (b := true) (x := false) rfl rfl rfl (by simp) (by simp) (by omega) fun a10 h10 => ?_
    refine sv hk h10 rfl (by omega) (o_pick (b := false) (h10.ev (lm rfl))) fun a11 h11 => ?_
    exact sN (hn _ (h11.sub (by simp [Act.eval])))
  · have hp : ((p'.concat y).length : Int) > 0 := by simp <;> omega
    rw [decide_eq_true hp] at h3
    have e1 : ((p'.concat y).length : Int) - 1 = (p'.length : Int) := by simp
    refine svg hk h3 (j := 2) (b := true) rfl rfl rfl (by simp) (by omega) (o_mov h3 (t := 3) (lm rfl)) fun a4 h4 => ?_
    refine svg hk h4 (j := 2) (b := true) rfl rfl rfl (by simp) (by omega) (o_mov h4 (t := 5) (lm rfl)) fun a5 h5 => ?_
    refine svg hk h5 (j := 2) (b := true) rfl rfl rfl (by simp) (by omega) (o_sub (m := (p'.concat y).length) (n := 1) (h5.ev (lm rfl)) rfl (wrapI (by omega) (by omega))) fun a6 h6 => ?_
    rw [e1] at h6
    refine svg hk h6 (j := 2) (b := true) rfl rfl rfl (by simp) (by omega) (o_idx h6 hY (x := 21) (y := 23) (i := p'.length) (lm rfl) (lm rfl) (by omega) (by rw [hm]; simp <;> omega)) fun a7 h7 => ?_
    refine svg hk h7 (j := 2) (b := true) rfl rfl rfl (by simp) (by omega) (o_load h7 hY (x := 24) (c := vI y) (lm rfl) hb (by
      rw [show (p'.concat y ++ x :: suf) = p' ++ y :: (x :: suf) by simp]
      have := get_mid (pre := p') (x := y) (suf := x :: suf) (tail := tail) rfl
      simpa using this)) fun a8 h8 => ?_
    refine svg hk h8 (j := 2) (b := true) rfl rfl rfl (by simp) (by omega) (o_mov h8 (t := 4) (lm rfl)) fun a9 h9 => ?_
    refine svg hk h9 (j := 2) (b := true) rfl rfl rfl (by simp) (by omega) (o_gtr (m := y) (n := n) (h9.ev (lm rfl)) (h9.ev (lm rfl))) fun a10 h10 => ?_
    refine sv hk h10 rfl (by omega) (o_pick (b := true) (h10.ev (lm rfl))) fun a11 h11 => ?_
    simp only [if_true] at h11
    rw [h10.ev (t := 27) (v := .bool (decide (y > n))) (by simp)] at h11
    refine sN (hn _ (h11.sub ?_))
    simp
theorem reg8 {o8 : Array Oper} (hk : o8.toList.map keyO = k8 tm ts ti tb) (hY : TyS X tm ts ti) {b cap m : Nat} {n : Int} {p' suf : List Int} {x y : Int} {tail : List Value} {T : TypeId} (hm : m = (p' ++ y :: x :: suf).length) (hlen : p'.length + 1 < 2 ^ 32)
    (hT : TF a [(3, slP b m cap), (4, vI n), (5, vI (p'.length + 1 : Nat)), (7, itP r)]) (hb : w.heap[b]? = some (Go.Obj.cells (((p' ++ y :: x :: suf).map vI ++ tail).toArray) T (0, 0)))
    (hn : ∀ a', TF a' [(3, slP b m cap), (4, vI n), (5, vI (p'.length + 1 : Nat)), (7, itP r)] → Q .normal a' (w.setRow b (((p' ++ y :: y :: suf).map vI ++ tail).toArray))) : (Code.region 8 o8 false).wp X.P Q a w := by
  refine wRgn hk ?_
  rw [show List.range' 0 (k8 tm ts ti tb).length = [0, 1, 2, 3, 4, 5, 6, 7, 8] from rfl]
  have e1 : ((p'.length + 1 : Nat) : Int) - 1 = (p'.length : Int) := by omega
  refine sv hk hT rfl (by omega) (o_mov hT (t := 3) (lm rfl)) fun a1 h1 => ?_
  refine sv hk h1 rfl (by omega) (o_mov h1 (t := 5) (lm rfl)) fun a2 h2 => ?_
  refine sv hk h2 rfl (by omega) (o_mov h2 (t := 3) (lm rfl)) fun a3 h3 => ?_
  refine sv hk h3 rfl (by omega) (o_mov h3 (t := 5) (lm rfl)) fun a4 h4 => ?_
  refine sv hk h4 rfl (by omega) (o_sub (m := (p'.length + 1 : Nat)) (n := 1) (h4.ev (lm rfl)) rfl (wrapI (by omega) (by omega))) fun a5 h5 => ?_
  rw [e1] at h5
  refine sv hk h5 rfl (by omega) (o_idx h5 hY (x := 31) (y := 33) (i := p'.length) (lm rfl) (lm rfl) (by omega) (by rw [hm]; simp <;> omega)) fun a6 h6 => ?_
  refine sv hk h6 rfl (by omega) (o_load h6 hY (x := 34) (c := vI y) (lm rfl) hb (by
    have := get_mid (pre := p') (x := y) (suf := x :: suf) (tail := tail) rfl
    simpa using this)) fun a7 h7 => ?_
  refine sv hk h7 rfl (by omega) (o_idx h7 hY (x := 29) (y := 30) (i := (p'.length + 1 : Nat)) (lm rfl) (lm rfl) (by omega) (by rw [hm]; simp <;> omega)) fun a8 h8 => ?_
  refine svs hk h8 rfl (o_store h8 hY (x := 36) (y := 35) (n := y) (lm rfl) (lm rfl) hb (by simp <;> omega)) fun a9 h9 => ?_
  have e2 : (((p' ++ y :: x :: suf).map vI ++ tail).toArray.toList.take ((p'.length + 1 : Nat) : Int).toNat ++ [Value.int .i64 y] ++ ((p' ++ y :: x :: suf).map vI ++ tail).toArray.toList.drop (((p'.length + 1 : Nat) : Int).toNat + 1)) = (p' ++ y :: y :: suf).map vI ++ tail := by
    have := set_mid (pre := p' ++ [y]) (x := x) (y := y) (suf := suf) (tail := tail)
    rw [show (p' ++ [y]).length = p'.length + 1 by simp] at this
    simpa using this
  rw [e2]
  exact sN (hn _ (h9.sub (by simp)))
theorem reg9 {o9 : Array Oper} (hk : o9.toList.map keyO = k9 tm ts ti tb) {c : Value} {n : Int} {m : Nat} (hlen : m + 1 < 2 ^ 32)
    (hT : TF a [(3, c), (4, vI n), (5, vI (m + 1 : Nat)), (7, itP r)]) (hn : ∀ a', TF a' [(3, c), (4, vI n), (5, vI m), (7, itP r)] → Q .normal a' w) : (Code.region 9 o9 false).wp X.P Q a w := by
  refine wRgn hk ?_
  rw [show List.range' 0 (k9 tm ts ti tb).length = [0, 1, 2] from rfl]
  refine sv hk hT rfl (by omega) (o_mov hT (t := 5) (lm rfl)) fun a1 h1 => ?_
  refine sv hk h1 rfl (by omega) (o_sub (m := (m + 1 : Nat)) (n := 1) (h1.ev (lm rfl)) rfl (wrapI (by omega) (by omega))) fun a2 h2 => ?_
  refine sv hk h2 rfl (by omega) (o_asg h2 (t := 38) (lm rfl)) fun a3 h3 => ?_
  rw [show ((m + 1 : Nat) : Int) - 1 = (m : Int) by omega] at h3
  exact sN (hn _ (h3.sub (by simp [vI])))
theorem reg10 {o10 : Array Oper} (hk : o10.toList.map keyO = k10 tm ts ti tb) (hY : TyS X tm ts ti) {b cap m : Nat} {n : Int} {pre suf : List Int} {x : Int} {tail : List Value} {T : TypeId} (hm : m = (pre ++ x :: suf).length)
    (hT : TF a [(3, slP b m cap), (4, vI n), (5, vI pre.length), (7, itP r)]) (hb : w.heap[b]? = some (Go.Obj.cells (((pre ++ x :: suf).map vI ++ tail).toArray) T (0, 0)))
    (hn : ∀ a', TF a' [(3, slP b m cap), (7, itP r)] → Q .normal a' (w.setRow b (((pre ++ n :: suf).map vI ++ tail).toArray))) : (Code.region 10 o10 false).wp X.P Q a w := by
  refine wRgn hk ?_
  rw [show List.range' 0 (k10 tm ts ti tb).length = [0, 1, 2, 3, 4] from rfl]
  refine sv hk hT rfl (by omega) (o_mov hT (t := 3) (lm rfl)) fun a1 h1 => ?_
  refine sv hk h1 rfl (by omega) (o_mov h1 (t := 5) (lm rfl)) fun a2 h2 => ?_
  refine sv hk h2 rfl (by omega) (o_mov h2 (t := 4) (lm rfl)) fun a3 h3 => ?_
  refine sv hk h3 rfl (by omega) (o_idx h3 hY (x := 39) (y := 40) (i := pre.length) (lm rfl) (lm rfl) (by omega) (by rw [hm]; simp <;> omega)) fun a4 h4 => ?_
  refine svs hk h4 rfl (o_store h4 hY (x := 42) (y := 41) (n := n) (lm rfl) (lm rfl) hb (by simp <;> omega)) fun a5 h5 => ?_
  have e2 : (((pre ++ x :: suf).map vI ++ tail).toArray.toList.take ((pre.length : Nat) : Int).toNat ++ [Value.int .i64 n] ++ ((pre ++ x :: suf).map vI ++ tail).toArray.toList.drop (((pre.length : Nat) : Int).toNat + 1)) = (pre ++ n :: suf).map vI ++ tail := by
    have := set_mid (pre := pre) (x := x) (y := n) (suf := suf) (tail := tail)
    simpa using this
  rw [e2]
  exact sN (hn _ (h5.sub (by simp)))
theorem inner {o7 o8 o9 o10 : Array Oper} (hk7 : o7.toList.map keyO = k7 tm ts ti tb) (hk8 : o8.toList.map keyO = k8 tm ts ti tb) (hk9 : o9.toList.map keyO = k9 tm ts ti tb) (hk10 : o10.toList.map keyO = k10 tm ts ti tb) (hY : TyS X tm ts ti)
    {b cap : Nat} {n : Int} {S : List Int} (hlen : S.length + 1 < 2 ^ 32) (hA : Asc S) (hW : Wst w0 w bm r es clock seen) (hb0 : w0.heap.size ≤ b) (hbr : b ≠ r) (hC : Cells w b (S ++ [n]) cap)
    (hT : TF a [(3, slP b (S.length + 1) cap), (4, vI n), (5, vI S.length), (7, itP r)])
    (hn : ∀ a' w', TF a' [(3, slP b (S.length + 1) cap), (7, itP r)] → Wst w0 w' bm r es clock seen → Cells w' b (insS n S) cap → Q .normal a' w') :
    (Code.seq (.block 2 (.loop (.seq (.seq (.region 7 o7 false) (.cond (.tmp 28) .skip (.exit 2))) (.block 3 (.seq (.region 8 o8 false) (.region 9 o9 false)))))) (.region 10 o10 false)).wp X.P Q a w := by
  refine wp_seq (wp_block ?_)
  obtain ⟨T, tail, hb, hcap⟩ := hC
  refine wp_loop (fun a w => ∃ pre x suf, S = pre ++ suf ∧ (∀ y ∈ suf, n < y) ∧ TF a [(3, slP b (S.length + 1) cap), (4, vI n), (5, vI pre.length), (7, itP r)] ∧ Wst w0 w bm r es clock seen ∧ w.heap[b]? = some (Go.Obj.cells (((pre ++ x :: suf).map vI ++ tail).toArray) T (0, 0)))
    (fun a _ => match a.tmps.getD 5 undef with | .int _ k => k.toNat | _ => 0) ⟨S, n, [], by simp, by simp, hT, hW, hb⟩ ?_
  rintro a w ⟨pre, x, suf, hS, hsuf, hT, hW, hb⟩
  have hlS : S.length = pre.length + suf.length := by rw [hS]; simp
  refine wp_seq (wp_seq ?_)
  refine reg7 hk7 hY (by rw [hS]; simp; omega) (by omega) hT hb fun a1 h1 => ?_
  simp only [Exit.then]
  have hend : (∀ y ∈ pre, y ≤ n) → TF a1 [(3, slP b (S.length + 1) cap), (4, vI n), (5, vI pre.length), (7, itP r)] → (Code.region 10 o10 false).wp X.P Q a1 w := fun hp h1 => by
    refine reg10 hk10 hY (pre := pre) (by rw [hS]; simp; omega) h1 hb fun a2 h2 => ?_
    refine hn a2 _ h2 (hW.row hb0 hbr _) ⟨T, tail, ?_, ?_⟩
    · rw [hS, insS_split hp hsuf]
      exact setRow_heap w b _ _ T (0, 0) hb
    · rw [len_insS]
      simpa using hcap
  rcases List.eq_nil_or_concat pre with rfl | ⟨p', y, rfl⟩
  · refine wp_cond (t := false) (h1.ev (lm rfl)) (wp_exit ?_)
    simp only [Exit.then, Exit.inBlock, if_true]
    exact hend (by simp) (h1.sub (by simp))
  · have e : (p'.concat y).getLast? = some y := by simp
    rw [e] at h1
    dsimp only at h1
    by_cases hy : y > n
    · rw [decide_eq_true hy] at h1
      refine wp_cond (t := true) (h1.ev (lm rfl)) (wp_skip ?_)
      simp only [Exit.then]
      refine wp_block (wp_seq ?_)
      rw [List.concat_eq_append] at *
      have hb' : w.heap[b]? = some (Go.Obj.cells (((p' ++ y :: x :: suf).map vI ++ tail).toArray) T (0, 0)) := by rw [hb]; simp
      refine reg8 (m := S.length + 1) (cap := cap) (n := n) (r := r) hk8 hY (p' := p') (by rw [hS]; simp; omega) (by simp at hlS; omega) (h1.sub (by simp)) hb' fun a2 h2 => ?_
      simp only [Exit.then]
      refine reg9 hk9 (by simp at hlS; omega) h2 fun a3 h3 => ?_
      simp only [Exit.inBlock, Exit.then]
      refine ⟨⟨p', y, y :: suf, by rw [hS]; simp, ?_, h3, hW.row hb0 hbr _, setRow_heap w b _ _ T (0, 0) hb'⟩, ?_⟩
      · intro z hz
        rcases List.mem_cons.1 hz with rfl | hz
        · exact hy
        · exact hsuf z hz
      · rw [h3.at_ 5 _ (lm rfl), hT.at_ 5 _ (lm rfl)]
        simp
    · rw [decide_eq_false hy] at h1
      refine wp_cond (t := false) (h1.ev (lm rfl)) (wp_exit ?_)
      simp only [Exit.then, Exit.inBlock, if_true]
      rw [List.concat_eq_append] at *
      refine hend (fun z hz => ?_) (h1.sub (by simp))
      rw [hS] at hA
      have h2 := (asc_split (asc_split hA).1).2.2
      rcases List.mem_append.1 hz with hz | hz
      · have := h2 z hz y (by simp); omega
      · rw [List.mem_singleton.1 hz]; omega
theorem o_range (hY : TyS X tm ts ti) {F : List (Nat × Value)} (hT : TF a F) {x : Nat} (hx : (x, .map (some bm)) ∈ F) (hb : w.heap[bm]? = some (.map es clock)) :
    ∀ o : Oper, o.op = .range tm (.tmp x) → (execOp a.eval o).run X.P w = .ok (.value (itP w.heap.size)) (w.alloc (.mapIter (some bm) clock #[] clock)) := by
  intro o ho
  obtain ⟨k, e, hm⟩ := hY.hm
  simp only [execOp, ho, hT.ev hx, Sem.run_bind, run_range_map w tm k e bm es clock hm hb, Result.andThen_ok, Sem.run_pure]
theorem o_next {F : List (Nat × Value)} (hT : TF a F) {x : Nat} (hx : (x, itP r) ∈ F) {v : Value} {w' : World} (h : ∀ ty, (Instr.next (itP r) false ty).run X.P w = .ok v w') :
    ∀ o : Oper, o.op = .next (.tmp x) false → (execOp a.eval o).run X.P w = .ok (.value v) w' := by
  intro o ho
  simp only [execOp, ho, hT.ev hx, Sem.run_bind, h, Result.andThen_ok, Sem.run_pure]
theorem o_entry {F : List (Nat × Value)} (hT : TF a F) {x : Nat} (hx : (x, itP r) ∈ F) {v : Value} (h : (Instr.entry (itP r)).run X.P w = .ok v w) :
    ∀ o : Oper, o.op = .entry (.tmp x) → (execOp a.eval o).run X.P w = .ok (.value v) w := by
  intro o ho
  simp only [execOp, ho, hT.ev hx, Sem.run_bind, h, Result.andThen_ok, Sem.run_pure]
theorem key_inj {es : List MapEntry} (hk : (es.map (·.key)).Nodup) : ∀ {x y : MapEntry}, x ∈ es → y ∈ es → x.key = y.key → x = y := by
  induction es with
  | nil => intro x y hx; simp at hx
  | cons z es ih =>
    intro x y hx hy h
    simp only [List.map_cons, List.nodup_cons, List.mem_map, not_exists, not_and] at hk
    rcases List.mem_cons.1 hx with rfl | hx
    · rcases List.mem_cons.1 hy with rfl | hy
      · rfl
      · exact absurd h.symm (hk.1 y hy)
    · rcases List.mem_cons.1 hy with e | hy
      · rw [e] at h; exact absurd h (hk.1 x hx)
      · exact ih hk.2 hx hy h
def GotIs (es : Array MapEntry) (seen : Array Nat) (got : List Int) : Prop := got.Nodup ∧ ∀ m, m ∈ got ↔ ∃ e ∈ es.toList, seen.contains e.born = true ∧ e.key = vI m
theorem GotIs.step {got : List Int} {e : MapEntry} {n : Int} (hs : MapKept.Stamped es clock) (he : e ∈ es.toList) (hc : seen.contains e.born = false) (hn : e.key = vI n) (hg : GotIs es seen got) : GotIs es (seen.push e.born) (n :: got) := by
  refine ⟨List.nodup_cons.2 ⟨fun hm => ?_, hg.1⟩, fun m => ?_⟩
  · obtain ⟨e', h1, h2, h3⟩ := (hg.2 n).1 hm
    have := key_inj hs.2.2 h1 he (h3.trans hn.symm)
    rw [this, hc] at h2
    simp at h2
  · simp only [List.mem_cons, hg.2 m, contains_push]
    constructor
    · rintro (rfl | ⟨e', h1, h2, h3⟩)
      · exact ⟨e, he, by simp, hn⟩
      · exact ⟨e', h1, by rw [h2]; rfl, h3⟩
    · rintro ⟨e', h1, h2, h3⟩
      cases h4 : seen.contains e'.born with
      | true => exact .inr ⟨e', h1, h4, h3⟩
      | false =>
        rw [h4] at h2
        simp only [Bool.false_or, beq_iff_eq] at h2
        have := born_inj hs.2.1 h1 he h2
        rw [this, hn] at h3
        left
        simpa using h3.symm
theorem GotIs.full {got ks : List Int} (hg : GotIs es seen got) (hs : MapKept.Stamped es clock) (h0 : (leftOf es seen).size = 0) (hk : es.toList.map (·.key) = ks.map vI) : sortK got = sortK ks := by
  have hnd : ks.Nodup := by
    have := hs.2.2
    rw [hk] at this
    exact (List.pairwise_map.1 this).imp fun h e => h (by rw [e])
  refine sortK_ext hg.1 hnd fun m => ?_
  rw [hg.2 m]
  constructor
  · rintro ⟨e, h1, _, h3⟩
    have : vI m ∈ ks.map vI := by rw [← hk, ← h3]; exact List.mem_map.2 ⟨e, h1, rfl⟩
    obtain ⟨m', h4, h5⟩ := List.mem_map.1 this
    have : m' = m := by simpa using h5
    rw [← this]; exact h4
  · intro hm
    have : vI m ∈ es.toList.map (·.key) := by rw [hk]; exact List.mem_map.2 ⟨m, hm, rfl⟩
    obtain ⟨e, h1, h2⟩ := List.mem_map.1 this
    exact ⟨e, h1, all_seen es seen h0 e h1, h2⟩
theorem sorted_wp {o0 o1 o2 o3 o4 o5 o6 o7 o8 o9 o10 o11 : Array Oper} (hk0 : o0.toList.map keyO = k0 tm ts ti tb) (hk1 : o1.toList.map keyO = k1 tm ts ti tb) (hk2 : o2.toList.map keyO = k2 tm ts ti tb) (hk3 : o3.toList.map keyO = k3 tm ts ti tb)
    (hk4 : o4.toList.map keyO = k4 tm ts ti tb) (hk5 : o5.toList.map keyO = k5 tm ts ti tb) (hk6 : o6.toList.map keyO = k6 tm ts ti tb) (hk7 : o7.toList.map keyO = k7 tm ts ti tb) (hk8 : o8.toList.map keyO = k8 tm ts ti tb) (hk9 : o9.toList.map keyO = k9 tm ts ti tb)
    (hk10 : o10.toList.map keyO = k10 tm ts ti tb) (hk11 : o11.toList.map keyO = k11 tm ts ti tb) (hY : TyS X tm ts ti) {ks : List Int} (hlen : ks.length < 2 ^ 32) (hs : MapKept.Stamped es clock) (hk : es.toList.map (·.key) = ks.map vI)
    (hb : w.heap[bm]? = some (.map es clock)) (hT : TF a [(0, .map (some bm))])
    (hn : ∀ a' w' r c seen, TF a' [(2, c)] → Wst w w' bm r es clock seen → Sl w w' r (sortK ks) c → Q .ret a' w') : (sortedCode o0 o1 o2 o3 o4 o5 o6 o7 o8 o9 o10 o11).wp X.P Q a w := by
  unfold sortedCode
  have hblt : bm < w.heap.size := (Array.getElem?_eq_some_iff.1 hb).1
  refine wp_seq (wRgn hk0 ?_)
  refine sv hk0 hT rfl (by omega) o_asgc fun a1 h1 => ?_
  refine sN ?_
  simp only [Exit.then]
  refine wp_seq (wRgn hk1 ?_)
  refine sv hk1 h1 rfl (by omega) o_asgc fun a2 h2 => ?_
  refine sN ?_
  simp only [Exit.then]
  refine wp_seq (wp_seq (wRgn hk2 ?_))
  refine sv hk2 h2 rfl (by omega) (o_mov h2 (t := 0) (lm rfl)) fun a3 h3 => ?_
  refine sv hk2 h3 rfl (by omega) (o_range hY h3 (x := 6) (lm rfl) hb) fun a4 h4 => ?_
  refine sN ?_
  simp only [Exit.then]
  refine wp_block ?_
  have hW0 : Wst w (w.alloc (.mapIter (some bm) clock #[] clock)) bm w.heap.size es clock #[] :=
    ⟨rfl, rfl, rfl, fun b hb => heap_alloc_old w _ hb, by simp, Nat.le_refl _, heap_alloc_new w _⟩
  refine wp_loop (fun a' w' => ∃ seen got c, TF a' [(3, c), (7, itP w.heap.size)] ∧ Wst w w' bm w.heap.size es clock seen ∧ Sl w w' w.heap.size (sortK got) c ∧ GotIs es seen got ∧ got.length + (leftOf es seen).size ≤ ks.length)
    (fun _ w' => (leftOf es (w'.iterSeen w.heap.size)).size) ⟨#[], [], .slice none 0 0, h4.sub (by simp), hW0, .inl ⟨rfl, rfl⟩, ⟨List.nodup_nil, by simp⟩, ?_⟩ ?_
  · have h1 := congrArg List.length hk
    simp only [List.length_map, Array.length_toList] at h1
    simp only [List.length_nil, Nat.zero_add]
    rw [← h1]
    exact Array.size_filter_le
  rintro a5 w5 ⟨seen, got, c, hT5, hW, hS, hG, hL⟩
  have hb5 : w5.heap[bm]? = some (.map es clock) := by rw [hW.old bm hblt]; exact hb
  refine wp_seq (wRgn hk3 ?_)
  have hty : ∀ ty, Instr.next (itP w.heap.size) false ty = Instr.next (itP w.heap.size) false 0 := fun _ => rfl
  rcases nextI (P := X.P) w5 0 w.heap.size bm seen es clock hW.it hb5 hs.1 with ⟨h0, hrun0⟩ | ⟨e, he, w6, hw6, hrun0⟩
  · have hrun : ∀ ty, (Instr.next (itP w.heap.size) false ty).run X.P w5 = .ok (.tuple #[.bool false]) w5 := fun ty => by rw [hty]; exact hrun0
    refine sv hk3 hT5 rfl (by omega) (o_next hT5 (x := 7) (lm rfl) hrun) fun a6 h6 => ?_
    refine sv hk3 h6 rfl (by omega) (o_ext h6 (t := 8) (lm rfl) rfl) fun a7 h7 => ?_
    refine sN ?_
    simp only [Exit.then]
    refine wp_seq (wp_cond (t := false) (h7.ev (lm rfl)) (wp_exit ?_))
    simp only [Exit.then, Exit.inBlock, if_true]
    refine wp_seq (wRgn hk11 ?_)
    have h7' : TF a7 [(3, c)] := h7.sub (by simp)
    refine sv hk11 h7' rfl (by omega) (o_mov h7' (t := 3) (lm rfl)) fun a8 h8 => ?_
    refine sv hk11 h8 rfl (by omega) (o_asg h8 (t := 43) (lm rfl)) fun a9 h9 => ?_
    refine sN ?_
    simp only [Exit.then]
    refine wp_ret (hn a9 w5 _ c seen (h9.sub (by simp)) hW ?_)
    rw [← hG.full hs h0 hk]
    exact hS
  · have hrun : ∀ ty, (Instr.next (itP w.heap.size) false ty).run X.P w5 = .ok (.tuple #[.bool true, e.key, e.val]) (setBlock w6 w.heap.size (.mapIter (some bm) clock (seen.push e.born) clock)) := fun ty => by rw [hty]; exact hrun0
    obtain ⟨he1, he2⟩ := mem_left he
    have hW6 : Wst w w6 bm w.heap.size es clock seen := by
      rcases hw6 with rfl | rfl
      · exact hW
      · exact hW.drew
    have hS6 : Sl w w6 w.heap.size (sortK got) c := by
      rcases hw6 with rfl | rfl
      · exact hS
      · exact hS.drew
    have hW7 := hW6.iter (seen.push e.born)
    have hS7 := hS6.iter (.mapIter (some bm) clock (seen.push e.born) clock)
    generalize setBlock w6 w.heap.size (.mapIter (some bm) clock (seen.push e.born) clock) = w7 at *
    have hb7 : w7.heap[bm]? = some (.map es clock) := by rw [hW7.old bm hblt]; exact hb
    obtain ⟨n, hn0, hkey⟩ : ∃ n, n ∈ ks ∧ e.key = vI n := by
      have : e.key ∈ ks.map vI := by rw [← hk]; exact List.mem_map.2 ⟨e, he1, rfl⟩
      obtain ⟨n, h1, h2⟩ := List.mem_map.1 this
      exact ⟨n, h1, h2.symm⟩
    have hG' := hG.step hs he1 he2 hkey
    have hsh := left_shrinks es seen e he
    refine sv hk3 hT5 rfl (by omega) (o_next hT5 (x := 7) (lm rfl) hrun) fun a6 h6 => ?_
    refine sv hk3 h6 rfl (by omega) (o_ext h6 (t := 8) (lm rfl) rfl) fun a7 h7 => ?_
    refine sN ?_
    simp only [Exit.then]
    refine wp_seq (wp_cond (t := true) (h7.ev (lm rfl)) (wp_skip ?_))
    simp only [Exit.then]
    refine wp_block (wp_seq (wRgn hk4 ?_))
    have h7' : TF a7 [(3, c), (7, itP w.heap.size)] := h7.sub (by simp)
    refine sv hk4 h7' rfl (by omega) (o_entry h7' (x := 7) (lm rfl) (entryI w7 _ bm seen es clock e hW7.it hb7 he1 hs.2.1)) fun a8 h8 => ?_
    refine sv hk4 h8 rfl (by omega) (o_ext h8 (t := 10) (lm rfl) rfl) fun a9 h9 => ?_
    refine sv hk4 h9 rfl (by omega) (o_asg h9 (t := 11) (lm rfl)) fun a10 h10 => ?_
    refine sN ?_
    simp only [Exit.then]
    rw [hkey] at h10
    have h10' : TF a10 [(3, c), (4, vI n), (7, itP w.heap.size)] := h10.sub (by simp)
    have hcl : ∃ b cap, c = .slice b (sortK got).length cap := by
      rcases hS7 with ⟨h1, h2⟩ | ⟨b, cap, h1, _⟩
      · exact ⟨none, 0, by rw [h1, h2]; rfl⟩
      · exact ⟨_, _, h1⟩
    refine wp_seq (wRgn hk5 ?_)
    obtain ⟨sb, scap, hcl⟩ := hcl
    refine sv hk5 h10' rfl (by omega) (o_mov h10' (t := 3) (lm rfl)) fun a11 h11 => ?_
    rw [hcl] at h11
    refine sv hk5 h11 rfl (by omega) (o_len h11 hY (t := 12) (lm rfl)) fun a12 h12 => ?_
    refine sv hk5 h12 rfl (by omega) (o_asg h12 (t := 13) (lm rfl)) fun a13 h13 => ?_
    refine sN ?_
    simp only [Exit.then]
    rw [← hcl] at h13
    have h13' : TF a13 [(3, c), (4, vI n), (5, vI (sortK got).length), (7, itP w.heap.size)] := h13.sub (by simp)
    refine wp_seq (wRgn hk6 ?_)
    refine sv hk6 h13' rfl (by omega) (o_mov h13' (t := 3) (lm rfl)) fun a14 h14 => ?_
    refine sv hk6 h14 rfl (by omega) (o_mov h14 (t := 4) (lm rfl)) fun a15 h15 => ?_
    refine sv hk6 h15 rfl (by omega) (o_one h15 hY (x := 15) (n := n) (lm rfl)) fun a16 h16 => ?_
    have hln : (sortK got).length + 1 < 2 ^ 32 := by
      rw [len_sortK]
      have : 0 < (leftOf es seen).size := by omega
      omega
    obtain ⟨b, cap, w8, hrun8, hW8, hb0, hbr, hC8⟩ := app_one hY hln hW7 hS7 h16 (x := 14) (y := 16) (lm rfl) (lm rfl)
    refine sv hk6 h16 rfl (by omega) hrun8 fun a17 h17 => ?_
    refine sv hk6 h17 rfl (by omega) (o_asg h17 (t := 17) (lm rfl)) fun a18 h18 => ?_
    refine sN ?_
    simp only [Exit.then]
    have h18' : TF a18 [(3, slP b ((sortK got).length + 1) cap), (4, vI n), (5, vI (sortK got).length), (7, itP w.heap.size)] := h18.sub (by simp)
    refine inner hk7 hk8 hk9 hk10 hY hln (asc_sortK hG.1) hW8 hb0 hbr hC8 h18' fun a19 w9 h19 hW9 hC9 => ?_
    simp only [Exit.then, Exit.inBlock]
    refine ⟨⟨seen.push e.born, n :: got, _, h19, hW9, .inr ⟨b, cap, ?_, hb0, hbr, hC9⟩, hG', ?_⟩, ?_⟩
    · simp only [sortK, len_insS]
    · simp only [List.length_cons]
      omega
    · have i1 : w9.iterSeen w.heap.size = seen.push e.born := by unfold World.iterSeen; rw [hW9.it]
      have i2 : w5.iterSeen w.heap.size = seen := by unfold World.iterSeen; rw [hW.it]
      rw [i1, i2]
      exact hsh
end
end Eng

namespace Eng
open Go Go.ChangeMaps
theorem fin_ok {X : Ctx} {fn : Func} {rres : List RRes} {h h' : List Obj} {g g1 : Nat → Value} {K K1 : Kom} {w w1 : World} {s : St} {a1 : Act} {res : AV} (h3 : chkRes X rres fn.results.toList = true)
    (hs1 : RelS X { nt := fn.ntmps, O := ownedBy (initH 0 h) g, K0 := K, w0 := w, h0 := initH 0 h, g0 := g } s g1 K1 w1 a1) (h64 : h.length ≤ 64) (hfin : finish h.length rres s = some (res, h')) :
    a1.defers = [] ∧ ∃ v, (results fn a1.tmps).run X.P w1 = .ok v w1 ∧ ∃ c K' g', Ending.returned v = .returned c ∧ Fr (ownedBy (initH 0 h) g) K w K' w1 ∧ GRel X K' w1 ∧ RelH X.fid K' w1 (initH 0 h') g' ∧
      RelA X.fid K' w1 (initH 0 h') g' res c ∧ (∀ r o b, lkH (initH 0 h') r = some o → blkV (g' r) = some b → ownedBy (initH 0 h) g b ∨ w.heap.size ≤ b) ∧
      ∀ r o, lkH (initH 0 h) r = some o → ∃ o', lkH (initH 0 h') r = some o' ∧ isBox o' = isBox o ∧ (isBox o ≠ 0 → g' r = g r) := by
  unfold finish at hfin
  split at hfin
  · simp at hfin
  · rename_i vs hvs
    split at hfin
    · simp at hfin
    · rename_i order hor
      dsimp only at hfin
      cases hd : (distinctN order && startsAt 0 h.length order) with
      | false => rw [hd] at hfin; simp at hfin
      | true =>
        rw [hd] at hfin
        simp only [Bool.and_eq_true] at hd
        obtain ⟨hd1, hd2⟩ := hd
        simp only [cond_true] at hfin
        split at hfin
        · simp at hfin
        · rename_i objs ho
          simp only [Option.some.injEq, Prod.mk.injEq] at hfin
          obtain ⟨rfl, rfl⟩ := hfin
          obtain ⟨cs, e1, e2⟩ := results_rel hs1 h3 hvs
          have hrn := rn_in (g := g1) ho
          have hvals := renL_rel hrn _ _ e2
          have hrh' := relH_in hs1.mem.rh hd1 ho
          have hres : (results fn a1.tmps).run X.P w1 = .ok (if hh : cs.toArray.size = 1 then cs.toArray[0] else .tuple cs.toArray) w1 := by
            have hdef : results fn a1.tmps = (fn.results.mapM (resF a1) >>= fun vs => pure (if h : vs.size = 1 then vs[0] else .tuple vs)) := by
              unfold results
              congr 2
            have e3 : (fn.results.mapM (resF a1)).run X.P w1 = .ok cs.toArray w1 := by
              rw [Array.mapM_eq_mapM_toList, Sem.run_map, e1]
              rfl
            rw [hdef, Sem.run_bind, e3]
            rfl
          refine ⟨hs1.df, _, hres, _, K1, gIn order g1, rfl, hs1.mem.fr, hs1.mem.gl, hrh', ?_, ?_, ?_⟩
          · -- the value
            have hlen := RelAs_length hvals
            unfold oneOf
            split
            · rename_i v hv
              rw [hv] at hvals hlen
              simp only [RelAs] at hvals
              obtain ⟨c, l', rfl, k1, rfl⟩ := hvals
              simpa using k1
            · rename_i hv
              have hne : cs.toArray.size ≠ 1 := by
                intro hh
                have : (renL (rnIn s.hp order) vs).length = 1 := by rw [← hlen]; simpa using hh
                match hq : renL (rnIn s.hp order) vs, this with
                | [x], _ => exact hv x hq
              rw [dif_neg hne]
              simp only [RelA]
              exact ⟨cs.toArray, rfl, by simpa using hvals⟩
          · intro i o b hi hb
            rw [lk_init] at hi
            have hlt := nthO_some hi
            rw [(getOs_nth 0 ho).1] at hlt
            obtain ⟨r, hr⟩ := nthN_lt hlt
            obtain ⟨o1, q1, q2⟩ := (getOs_nth i ho).2 r hr
            rw [gIn_nth hr] at hb
            exact hs1.mem.own r o1 b q1 hb
          · intro r o hr
            rw [lk_init] at hr
            have hlt := nthO_some hr
            have hn := startsAt_nth hd2 hlt
            simp only [Nat.zero_add] at hn
            obtain ⟨o1, q1, q2⟩ := (getOs_nth r ho).2 r hn
            obtain ⟨o0, p1, p2, p3⟩ := hs1.mem.arg r o1 (by omega) q1
            have p1' : nthO h r = some o0 := by rw [← lk_init]; exact p1
            rw [hr] at p1'
            simp only [Option.some.injEq] at p1'; subst p1'
            refine ⟨_, by rw [lk_init]; exact q2, by rw [isBox_renO]; exact p2, fun hbx => ?_⟩
            rw [gIn_nth hn]
            exact p3 (by rw [p2]; exact hbx)
structure SortedIs (X : Ctx) (f : Nat) (fn : Func) (o0 o1 o2 o3 o4 o5 o6 o7 o8 o9 o10 o11 : Array Oper) (tm ts ti tb : TypeId) : Prop where
  hfn : X.P.funcs[X.fid f]? = some fn
  hname : (fn.name == "runtime.NumGoroutine") = false
  hbody : fn.body = some (sortedCode o0 o1 o2 o3 o4 o5 o6 o7 o8 o9 o10 o11)
  hnt : fn.ntmps = 44
  hres : chkRes X [.tmp 2] fn.results.toList = true
  hty : TyS X tm ts ti
  q0 : o0.toList.map keyO = k0 tm ts ti tb
  q1 : o1.toList.map keyO = k1 tm ts ti tb
  q2 : o2.toList.map keyO = k2 tm ts ti tb
  q3 : o3.toList.map keyO = k3 tm ts ti tb
  q4 : o4.toList.map keyO = k4 tm ts ti tb
  q5 : o5.toList.map keyO = k5 tm ts ti tb
  q6 : o6.toList.map keyO = k6 tm ts ti tb
  q7 : o7.toList.map keyO = k7 tm ts ti tb
  q8 : o8.toList.map keyO = k8 tm ts ti tb
  q9 : o9.toList.map keyO = k9 tm ts ti tb
  q10 : o10.toList.map keyO = k10 tm ts ti tb
  q11 : o11.toList.map keyO = k11 tm ts ti tb
theorem len1' {α : Type} {l : List α} (h : l.length = 1) : ∃ a, l = [a] := by
  match l, h with
  | [a], _ => exact ⟨a, rfl⟩
theorem sorted_ok {X : Ctx} {f : Nat} {fn : Func} {o0 o1 o2 o3 o4 o5 o6 o7 o8 o9 o10 o11 : Array Oper} {tm ts ti tb : TypeId} (hI : SortedIs X f fn o0 o1 o2 o3 o4 o5 o6 o7 o8 o9 o10 o11 tm ts ti tb) : ExtOk X f ⟨1, [.tmp 2], (.reg [.a 2 (.srt (.t 0))])⟩ := by
  intro S args h h' res hb
  refine ⟨⟨fn, hI.hfn, hI.hname, by rw [hI.hbody]; rfl⟩, ?_⟩
  unfold runBody at hb
  cases hp : Nat.beq args.length 1 with
  | false => rw [hp] at hb; simp at hb
  | true =>
    rw [hp] at hb
    obtain ⟨x, rfl⟩ : ∃ x, args = [x] := len1' (Nat.eq_of_beq_eq_true hp)
    simp only [cond_true, ev, runOps, stepRO, RO.gd, RO.op, RO.d, wantedR, stepOp, opd, initE, lkE] at hb
    rw [show Nat.beq 0 0 = true from rfl, cond_true] at hb
    cases x with
    | mp r =>
      dsimp only at hb
      cases hl : lkH (initH 0 h) r with
      | none => rw [hl] at hb; simp at hb
      | some o =>
        rw [hl] at hb
        cases o with
        | set ks =>
          dsimp only at hb
          cases hd : decide (ks.length < 2 ^ 32) with
          | false => rw [hd] at hb; simp at hb
          | true =>
            rw [hd] at hb
            dsimp only [cond_true] at hb
            have hlen : ks.length < 2 ^ 32 := of_decide_eq_true hd
            have hf : finish h.length [.tmp 2] ⟨[(2, .pl (.sl 1 (rowsK (sortK ks))))], initH 0 h⟩ = some (res, h') := hb
            intro w K g cargs hrh hgl hargs h64
            obtain ⟨b, es, clock, e1, e2, e3, _, e4⟩ := hrh.obj r _ hl
            simp only [RelAs] at hargs
            obtain ⟨c, l', hc, ha, rfl⟩ := hargs
            simp only [RelA] at ha
            obtain ⟨_, b', _, ha1, rfl⟩ := ha
            rw [e1] at ha1
            simp only [Value.map.injEq, Option.some.injEq] at ha1
            subst ha1
            have hblt : b < w.heap.size := (Array.getElem?_eq_some_iff.1 e2).1
            refine calls_of_wp hI.hfn hI.hbody ?_
            have hcs : cargs = #[.map (some b)] := by
              apply Array.toList_inj.1
              rw [hc]
            subst hcs
            refine sorted_wp hI.q0 hI.q1 hI.q2 hI.q3 hI.q4 hI.q5 hI.q6 hI.q7 hI.q8 hI.q9 hI.q10 hI.q11 hI.hty hlen e4 e3 e2 ⟨rfl, by rw [hI.hnt]; simp, fun t v hm => ?_⟩ fun a' w' r' c seen hTF hW hS => ?_
            · simp only [List.mem_singleton, Prod.mk.injEq] at hm
              obtain ⟨rfl, rfl⟩ := hm
              rw [Array.getD_eq_getD_getElem?, Array.getElem?_append_left (by simp)]
              rfl
            · have hold : ∀ x, x < w.heap.size → w'.heap[x]? = w.heap[x]? := hW.old
              have hkeep : ∀ K' : Kom, (∀ x, x < w.heap.size → K' x = K x) → Keep K w K' w' := fun K' hK x cur T fr hx => by
                have hlt : x < w.heap.size := (Array.getElem?_eq_some_iff.1 hx).1
                exact ⟨cur, fr, by rw [hold x hlt]; exact hx, rfl, by rw [hK x hlt]; exact Nat.le_refl _, fun h => by rw [hK x hlt]; exact h, fun _ _ => rfl⟩
              obtain ⟨K', hKb, hv⟩ : ∃ K' : Kom, (∀ x, x < w.heap.size → K' x = K x) ∧ RelP K' w' (.sl 1 (rowsK (sortK ks))) c := by
                rcases hS with ⟨h1, rfl⟩ | ⟨b2, cap, rfl, hb0, _, T, tail, hC, hcap⟩
                · refine ⟨K, fun _ _ => rfl, ?_⟩
                  rw [h1]
                  simp [RelP, rowsK]
                · refine ⟨updK K b2 (sortK ks).length, fun x hx => updK_ne K _ (by omega), ?_⟩
                  simp only [RelP]
                  refine ⟨_, cap, by rw [rowsK_len], by rw [rowsK_len]; omega, .inr ⟨b2, 0, _, T, (0, 0), rfl, hC, by rw [updK_same, rowsK_len]; omega, by rw [updK_same]; simp, ?_⟩⟩
                  rw [List.drop_zero]
                  exact rr_to
              have hk := hkeep K' hKb
              have hm0 : RelM X { nt := fn.ntmps, O := ownedBy (initH 0 h) g, K0 := K, w0 := w, h0 := initH 0 h, g0 := g } (initH 0 h) g K w :=
                ⟨hrh, hgl, ⟨rfl, rfl, rfl, Nat.le_refl _, fun _ _ _ => ⟨rfl, rfl⟩, Keep.refl K w⟩, fun r o b hr hb => .inl ⟨r, o, hr, hb⟩, fun r o _ hr => ⟨o, hr, rfl, fun _ => rfl⟩⟩
              have hm1 : RelM X { nt := fn.ntmps, O := ownedBy (initH 0 h) g, K0 := K, w0 := w, h0 := initH 0 h, g0 := g } (initH 0 h) g K' w' :=
                hm0.change hk (HGo.refl _ _) ⟨hW.os, hW.tape, hW.output, hW.size, fun x hx _ => ⟨hold x hx, hKb x hx⟩, hk⟩ (fun _ => False)
                  (fun r o _ hr => ⟨hr, rfl, fun b hb => ⟨hold b (hm0.lt hr hb), hKb b (hm0.lt hr hb)⟩⟩) (fun _ _ h => h.elim)
              refine fin_ok hI.hres ⟨fun t => ?_, hm1, hTF.df, by have := hTF.sz; rw [hI.hnt]; exact this⟩ h64 hf
              simp only [lkE]
              cases ht : Nat.beq 2 t with
              | true =>
                rw [← Nat.eq_of_beq_eq_true ht, hTF.at_ 2 c (by simp)]
                simpa only [cond_true, RelA] using hv
              | false => simp [RelA]
        | _ => simp at hb
    | _ => simp at hb
def tyB (X : Ctx) (ti : TypeId) : Bool := szIs X ti 1 && aggIs X ti false && (match X.P.info? ti with
  | some i => (match i.zero with
    | some z => Nat.beq z.cells.size 1 && Nat.beq i.size 1 && Nat.ble i.bytes 32768
    | none => false)
  | none => false)
theorem TyS.of {X : Ctx} {tm ts ti k e : TypeId} (hm : X.P.underlying tm = some (.map k e)) (hs : X.P.underlying ts = some (.slice ti)) (h : tyB X ti = true) : TyS X tm ts ti := by
  unfold tyB at h
  simp only [Bool.and_eq_true] at h
  obtain ⟨⟨h1, h2⟩, h3⟩ := h
  refine ⟨⟨k, e, hm⟩, hs, h1, h2, ?_⟩
  split at h3
  · rename_i i hi
    split at h3
    · rename_i z hz
      simp only [Bool.and_eq_true] at h3
      exact ⟨i, z, hi, hz, Nat.eq_of_beq_eq_true h3.1.1, Nat.eq_of_beq_eq_true h3.1.2, Nat.le_of_ble_eq_true h3.2⟩
    · simp at h3
  · simp at h3
end Eng

