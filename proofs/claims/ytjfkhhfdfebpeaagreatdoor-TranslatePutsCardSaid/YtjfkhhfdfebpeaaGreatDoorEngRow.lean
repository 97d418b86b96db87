/- Rows: what came in, as plain values. -/
import Derived.Test.YtjfkhhfdfebpeaaGreatDoorEngC
import Derived.Test.YtjfkhhfdfebpeaaGreatDoorEngT
import Derived.ChangeArms
import Derived.DataReads
import Derived.WideShapes
import Derived.Carry
import Derived.Test.YtjfkhhfdfebpeaaGreatDoorEngIR
set_option linter.all false
set_option linter.unusedVariables false
set_option linter.unusedSimpArgs false
namespace Eng
open Go
variable {H : Type} {enc : TypeId × Value → H} {P : Program} {w : World} {spare : Nat → Bool} {held : Bool}
def Kf (w : World) : Kom := fun b => match w.heap[b]? with
  | some (.cells c _ _) => c.size
  | _ => 0
theorem RelRows_of_get {K : Kom} {sz : Nat} : ∀ {rows : List (List PV)} {l : List Value}, (∀ i, i < rows.length → (rows.getD i []).length = sz ∧ RelL K w (rows.getD i []) (l.drop (i * sz))) → RelRows K w sz rows l
  | [], _, _ => RelRows_nil
  | r :: rs, l, h => by
    have h0 := h 0 (by simp)
    simp only [List.getD_cons_zero, Nat.zero_mul, List.drop_zero] at h0
    refine ⟨h0.1, h0.2, RelRows_of_get fun i hi => ?_⟩
    have := h (i + 1) (by simpa using hi)
    simp only [List.getD_cons_succ] at this
    rw [List.drop_drop, show sz + i * sz = (i + 1) * sz by rw [Nat.add_mul]; omega]
    exact this
theorem Addr_add {b off n : Nat} : (⟨b, off, none⟩ : Addr).add n = ⟨b, off + n, none⟩ := by unfold Addr.add; split <;> simp_all
theorem sl_of {a : Addr} {len cap sz : Nat} {rows : List (List PV)} (hc : len ≤ cap) (hl : rows.length = len) (hsz : 0 < sz)
    (h : ∀ i, i < len → ∃ cs, w.cells? 0 (a.add (i * sz)) sz = some cs ∧ (rows.getD i []).length = sz ∧ RelL (Kf w) w (rows.getD i []) cs) : RelP (Kf w) w (.sl sz rows) (.slice (some a) len cap) := by
  refine ⟨some a, cap, by rw [hl], by omega, ?_⟩
  by_cases hn : rows = []
  · exact .inl hn
  · right
    have h0 : 0 < len := by
      rw [← hl]; exact List.length_pos_iff.2 hn
    obtain ⟨cs0, e1, e2, e3⟩ := h 0 h0
    obtain ⟨_, c1, c2⟩ := World.cells?_some e1
    have c3 := c2 0 hsz
    rw [Nat.zero_mul] at c3
    have c4 : (a.add 0).add 0 = a := rfl
    rw [c4, List.getElem?_eq_getElem (by omega)] at c3
    have hspot := World.cell?_spot c3
    obtain ⟨b, off, spot⟩ := a
    dsimp only at hspot
    subst hspot
    have hb : ∃ cur T fr, w.heap[b]? = some (Go.Obj.cells cur T fr) := by
      unfold World.cell? at c3
      split at c3
      · rename_i cur T fr hh
        exact ⟨cur, T, fr, hh⟩
      · simp at c3
    obtain ⟨cur, T, fr, hb⟩ := hb
    have key : ∀ i, i < len → ∃ cs : List Value, cs.length = sz ∧ (∀ j, j < sz → cur[off + i * sz + j]? = cs[j]?) ∧ (rows.getD i []).length = sz ∧ RelL (Kf w) w (rows.getD i []) cs := by
      intro i hi
      obtain ⟨cs, e1, e2, e3⟩ := h i hi
      obtain ⟨_, c1, c2⟩ := World.cells?_some e1
      refine ⟨cs, c1, fun j hj => ?_, e2, e3⟩
      have := c2 j hj
      rw [Addr_add, Addr_add] at this
      unfold World.cell? at this
      rw [hb] at this
      exact this
    have hK : Kf w b = cur.size := by unfold Kf; rw [hb]
    refine ⟨b, off, cur, T, fr, rfl, hb, ?_, by omega, ?_⟩
    · rw [hK, hl]
      obtain ⟨cs, k1, k2, _⟩ := key (len - 1) (by omega)
      have := k2 (sz - 1) (by omega)
      rw [List.getElem?_eq_getElem (by omega)] at this
      have h5 := (Array.getElem?_eq_some_iff.1 this).1
      have h6 : len * sz = (len - 1) * sz + sz := by
        obtain ⟨m, rfl⟩ : ∃ m, len = m + 1 := ⟨len - 1, by omega⟩
        rw [Nat.add_mul]; simp
      omega
    · refine RelRows_of_get fun i hi => ?_
      obtain ⟨cs, k1, k2, k3, k4⟩ := key i (by omega)
      refine ⟨k3, RelL_mono (Keep.refl _ _) _ _ _ k4 fun j hj => ?_⟩
      rw [List.drop_drop, List.getElem?_drop, Array.getElem?_toList, k2 j (by omega)]
theorem choose_list {α : Type} {Q : Nat → α → Prop} : ∀ {n : Nat}, (∀ i, i < n → ∃ t, Q i t) → ∃ l : List α, l.length = n ∧ ∀ i t, l[i]? = some t → Q i t
  | 0, _ => ⟨[], rfl, fun i t h => by simp at h⟩
  | n + 1, h => by
    obtain ⟨l, h1, h2⟩ := choose_list (n := n) fun i hi => h i (by omega)
    obtain ⟨t, ht⟩ := h n (by omega)
    refine ⟨l ++ [t], by simp [h1], fun i u hu => ?_⟩
    by_cases hi : i < n
    · rw [List.getElem?_append_left (by omega)] at hu
      exact h2 i u hu
    · rw [List.getElem?_append_right (by omega)] at hu
      have hi2 : i = n := by
        have := (List.getElem?_eq_some_iff.1 hu).1
        simp at this
        omega
      subst hi2
      rw [h1, Nat.sub_self] at hu
      simp at hu
      rw [← hu]
      exact ht
theorem slice_of {α : Type} (encA : α → List PV) (wfA : α → Prop) {s e : TypeId} {sz fuel : Nat} {v : Value} {x : DataW H × List MemPlace}
    (ih : ∀ m, m < fuel → ∀ cs x, DataW.trod enc P w 0 spare held m e cs = some x → ∃ t : α, wfA t ∧ RelL (Kf w) w (encA t) cs)
    (hlen : ∀ t, (encA t).length = sz) (hsz : 0 < sz) (ht : P.underlying s = some (.slice e)) (hcell : P.cellsOf e = sz) (h : DataW.trod enc P w 0 spare held fuel s [v] = some x) :
    ∃ ts : List α, (∀ t ∈ ts, wfA t) ∧ ts.length < 2 ^ 63 ∧ RelP (Kf w) w (.sl sz (ts.map encA)) v := by
  rcases DataW.trod_slice ht h with ⟨h0, _⟩ | ⟨a, len, cap, elems, rest, n, hn, hcs, _, _, hl, hm, hel, hE, _, _⟩
  · simp only [List.cons.injEq, and_true] at h0
    subst h0
    exact ⟨[], by simp, by simp, ⟨none, 0, rfl, Nat.le_refl _, .inl rfl⟩⟩
  · simp only [List.cons.injEq, and_true] at hcs
    subst hcs
    obtain ⟨ts, h1, h2⟩ := choose_list (n := len) (Q := fun i t => wfA t ∧ ∃ cs, w.cells? 0 (a.add (i * sz)) sz = some cs ∧ RelL (Kf w) w (encA t) cs) fun i hi => by
      have := hE i hi
      rw [List.getElem?_eq_getElem (by omega), hcell] at this
      obtain ⟨cs, c1, c2⟩ := Option.bind_eq_some_iff.1 this
      obtain ⟨t, t1, t2⟩ := ih n (by omega) cs _ c2
      exact ⟨t, t1, cs, c1, t2⟩
    refine ⟨ts, fun t htm => ?_, by unfold maxLen at hm; omega, sl_of hl (by simp [h1]) hsz fun i hi => ?_⟩
    · obtain ⟨i, hi⟩ := List.getElem?_of_mem htm
      exact (h2 i t hi).1
    · have hit : ts[i]? = some (ts[i]'(by omega)) := List.getElem?_eq_getElem (by omega)
      obtain ⟨_, cs, c1, c2⟩ := h2 i _ hit
      refine ⟨cs, c1, ?_⟩
      have e : (ts.map encA).getD i [] = encA (ts[i]'(by omega)) := by simp [show i < ts.length by omega]
      rw [e]
      exact ⟨hlen _, c2⟩
structure Tys (P : Program) where
  i : TypeId
  ty : TypeId
  tys : TypeId
  tm : TypeId
  tms : TypeId
  fm : TypeId
  fms : TypeId
  hi : P.underlying i = some (.int .i64)
  hty : ∃ f0 f1 : Field, P.underlying ty = some (.struct #[f0, f1]) ∧ (f0.type = i ∧ f0.offset = 0) ∧ f1.type = tys ∧ f1.offset = 1
  htys : P.underlying tys = some (.slice ty)
  htm : ∃ f0 f1 f2 f3 : Field, P.underlying tm = some (.struct #[f0, f1, f2, f3]) ∧ (f0.type = i ∧ f0.offset = 0) ∧ (f1.type = i ∧ f1.offset = 1) ∧ (f2.type = ty ∧ f2.offset = 2) ∧ f3.type = tms ∧ f3.offset = 4
  htms : P.underlying tms = some (.slice tm)
  hfm : ∃ f0 f1 f2 f3 : Field, P.underlying fm = some (.struct #[f0, f1, f2, f3]) ∧ (f0.type = i ∧ f0.offset = 0) ∧ (f1.type = ty ∧ f1.offset = 1) ∧ (f2.type = tms ∧ f2.offset = 3) ∧ f3.type = fms ∧ f3.offset = 4
  hfms : P.underlying fms = some (.slice fm)
  ci : P.cellsOf i = 1
  cty : P.cellsOf ty = 2
  ctys : P.cellsOf tys = 1
  ctm : P.cellsOf tm = 5
  ctms : P.cellsOf tms = 1
  cfm : P.cellsOf fm = 5
  cfms : P.cellsOf fms = 1
theorem ints_of (T : Tys P) {s : TypeId} (hs : P.underlying s = some (.slice T.i)) {fuel : Nat} {v : Value} {x : DataW H × List MemPlace} (h : DataW.trod enc P w 0 spare held fuel s [v] = some x) :
    ∃ l : List Int, RelP (Kf w) w (.sl 1 (l.map fun n => [.int .i64 n])) v := by
  obtain ⟨ts, _, _, h3⟩ := slice_of (sz := 1) (fun n : Int => [PV.int .i64 n]) (fun _ => True) (fun m _ cs x hx => by
    obtain ⟨k, e0, _, _⟩ := DataW.trod_int T.hi hx
    exact ⟨k, trivial, by rw [e0]; exact ⟨_, _, rfl, rfl, trivial⟩⟩) (fun _ => rfl) (by omega) hs T.ci h
  exact ⟨ts, h3⟩
theorem row_of {X : Ctx} {R : RProg} (hl : Linked X R) {f : Nat} {args : List AV} {b : Bool} {w : World} {cargs : Array Value} (hcall : (Lim R X.G).call f args [] = some (.pl (.bool b), [])) (hG : GRel X (Kf w) w)
    (hargs : RelAs X.fid (Kf w) w [] (fun _ => .nilFunc) args cargs.toList) : Calls X.P (X.fid f) cargs w fun e w' => e = .returned (.bool b) ∧ RowKit.Below w.heap.size w w' := by
  have h := lim_ok hl hcall w (Kf w) (fun _ => .nilFunc) cargs ⟨fun r o h => by simp [initH, lkH] at h, fun r r' o o' b _ h => by simp [initH, lkH] at h⟩ hG hargs (by simp)
  refine h.mono fun e w' ⟨c, K', g', he, hfr, _, _, hres, _⟩ => ⟨?_, ?_⟩
  · simp only [RelA, RelP] at hres
    rw [he, hres]
  · exact ⟨hfr.os, hfr.tape, hfr.output, hfr.size, fun k hk => (hfr.blk k hk (by simp [ownedBy, initH, lkH])).1⟩
theorem grel_of {X : Ctx} {w : World} {cur : Array Value} {T : TypeId} {fr : Nat × Nat} (hX : X.G = GV) (hb : w.heap[X.gm 369]? = some (.cells cur T fr)) (hc : cur.toList = [0, 0, 1, 2, 0, 1, 3, 0, 2, 3, 2, 1, 1, 0].map fun n => Value.int .i64 n) : GRel X (Kf w) w := by
  intro i
  rw [hX]
  unfold GV
  cases hi : Nat.beq i 369 with
  | false => simp only [cond_false]; trivial
  | true =>
    rw [Nat.eq_of_beq_eq_true hi]
    simp only [cond_true]
    have hs : cur.size = 14 := by rw [← Array.length_toList, hc]; rfl
    have hK : Kf w (X.gm 369) = cur.size := by unfold Kf; rw [hb]
    refine ⟨_, 0, cur, T, fr, rfl, hb, by omega, by omega, rfl, ?_⟩
    rw [List.drop_zero, hc]
    repeat' first
      | exact trivial
      | refine ⟨_, _, rfl, rfl, ?_⟩
end Eng

