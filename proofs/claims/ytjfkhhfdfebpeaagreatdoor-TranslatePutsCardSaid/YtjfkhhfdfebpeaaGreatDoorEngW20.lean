/- Making: variables of a type, functions applied. -/
import Derived.Test.YtjfkhhfdfebpeaaGreatDoorEngT
import Derived.Test.YtjfkhhfdfebpeaaGreatDoorEngTab
import Derived.Test.YtjfkhhfdfebpeaaGreatDoorEngW18
import Derived.Test.YtjfkhhfdfebpeaaGreatDoorEngW19
import Derived.Test.YtjfkhhfdfebpeaaGreatDoorEngW2
import Derived.Test.YtjfkhhfdfebpeaaGreatDoorEngZ
set_option linter.all false
set_option linter.unusedVariables false
set_option linter.unusedSimpArgs false
set_option maxRecDepth 100000
set_option maxHeartbeats 4000000
namespace Eng
open Go
section
variable {R : RProg} {G : Nat → AV}
def Tm.apps : Tm → List Tm → Tm
  | f, [] => f
  | f, a :: l => Tm.apps (Tm.n0 3 [f, a]) l
theorem call46 (hR : Has R G c46) (f : Tm) (as : List Tm) (hs : f.size + Tm.sizes as + 2 * as.length < 2 ^ 31) : (Lim R G).call 46 [.st 5 f.enc, .pl (.sl 5 (Tm.encs as))] [] = some (.st 5 (Tm.apps f as).enc, []) := by
  refine call_of (hR.at 46 (by kernel_rfl) tab46) (by rfl) ?_
  have hl := Tm.encs_len as
  have hl2 := Tm.sizes_len as
  generalize hr : Tm.encs as = rs at hl ⊢
  generalize hf : f.enc = rf
  generalize hro : (Tm.apps f as).enc = ro
  repeat' (first | refine uU ?_ | refine uV fun z hz => ?_ | refine uW fun zs hzs => ?_ | refine dq (fun hq => ?_) fun hq => ?_)
  refine wploop (σ := Int × Tm × List PV) (fun x => [(9, .pl (.int .i64 (x.1)))]) (fun x => [(1000, .box 5 (.st 5 x.2.2))]) (fun x => (0 ≤ x.1 ∧ x.1 ≤ as.length) ∧ x.2.2 = x.2.1.enc ∧ Tm.apps x.2.1 (as.drop x.1.toNat) = Tm.apps f as ∧ x.2.1.size + Tm.sizes (as.drop x.1.toNat) + 2 * (as.drop x.1.toNat).length < 2 ^ 31) (fun x => as.length - x.1.toNat) (0, f, rf) (by cbv) ⟨by dsimp only; omega, hf.symm, by simp, by simpa using hs⟩ (by cbv) ?_
  rintro ⟨j, g, row⟩ ⟨h1, h2, h3, h4⟩
  dsimp only at h1 h2 h3 h4
  refine wp_at (by cbv) ?_
  by_cases hj : j < as.length
  · obtain ⟨a, ha, hd, he⟩ := Tm.at_ (as := as) (n := j) (by omega)
    rw [hr] at he
    rw [hd] at h3 h4
    simp only [Tm.apps] at h3
    simp only [Tm.sizes, List.length_cons] at h4
    have hc := call44s (hR.sub (by kernel_rfl)) 3 [g, a] (by simp only [Tm.sizes]; omega)
    simp only [Tm.encs] at hc
    rw [← h2] at hc
    generalize Tm.enc a = ra at hc he
    generalize hgn : Tm.n0 3 [g, a] = gn at hc h3
    have hgs : gn.size = g.size + a.size + 2 := by rw [← hgn, Tm.n0_size]; simp only [Tm.sizes]; omega
    generalize hrn : Tm.enc gn = rn at hc
    repeat' (first | refine uU ?_ | refine uV fun z hz => ?_ | refine uW fun zs hzs => ?_ | refine dq (fun hq => ?_) fun hq => ?_)
    exact again_normal (z, gn, rn) ⟨by dsimp only; omega, hrn.symm, by dsimp only; rw [hz]; exact h3, by dsimp only; rw [hz, hgs]; omega⟩ (by dsimp only; omega) (by cbv)
  · rw [drop_all h1.1 hj] at h3
    simp only [Tm.apps] at h3
    rw [h3, hro] at h2
    repeat' (first | refine uU ?_ | refine uV fun z hz => ?_ | refine uW fun zs hzs => ?_ | refine dq (fun hq => ?_) fun hq => ?_)
    (refine fin_ret ?_; rw [← h2]; cbv)
def ctxR (r : List Ty) : List (List PV) := Ty.encs r.reverse
theorem ctxR_len (r : List Ty) : (ctxR r).length = r.length := by simp [ctxR, Ty.encs_len]
theorem ctxR_cons (t : Ty) (r : List Ty) : ctxR (t :: r) = ctxR r ++ [t.enc] := by simp [ctxR, Ty.encs_eq]
theorem ctxR_get {r : List Ty} {z : Int} {n : Nat} (hz : z = r.length - 1 - n) (hn : n < r.length) : ∃ t, r[n]? = some t ∧ t ∈ r ∧ (ctxR r).getD z.toNat [] = t.enc := by
  refine ⟨r[n], by simp [hn], by simp, ?_⟩
  have e : z.toNat = r.length - 1 - n := by omega
  rw [e, ctxR, Ty.encs_eq]
  simp only [List.getD_eq_getElem?_getD, List.getElem?_map]
  rw [List.getElem?_reverse (by omega), show r.length - 1 - (r.length - 1 - n) = n by omega]
  simp [hn]
theorem call41 (hR : Has R G c41) (r : List Ty) (t : Ty) (hr : r.length < 2 ^ 20) (hrs : ∀ u ∈ r, u.size < 2 ^ 40) (ht : t.size < 2 ^ 40) : ∃ (vs : List (List PV)) (_ : Unit), (Lim R G).call 41 [.pl (.sl 2 (ctxR r)), .st 2 t.enc] [] = some (.pl (.sl 1 (vs)), []) ∧ vs.length ≤ r.length ∧ ∀ z : Int, 0 ≤ z → z < vs.length → ∃ v : Int, vs.getD z.toNat [] = [.int .i64 v] ∧ 0 ≤ v ∧ r[v.toNat]? = some t := by
  have hl := ctxR_len r
  have hg := fun z n => @ctxR_get r z n
  refine ex2 (call_ofE (hR.at 41 (by kernel_rfl) tab41) (by rfl) ?_)
  generalize ctxR r = gs at *
  generalize hty : t.enc = rt at *
  repeat' (first | refine uU ?_ | refine uV fun z hz => ?_ | refine uW fun zs hzs => ?_ | refine dq (fun hq => ?_) fun hq => ?_)
  refine wploop (σ := Int × List (List PV)) (fun x => [(9, .pl (.int .i64 (x.1)))]) (fun x => [(1032, .buf 1 x.2 0)]) (fun x => (0 ≤ x.1 ∧ x.1 ≤ r.length ∧ x.2.length ≤ x.1) ∧ ∀ z : Int, 0 ≤ z → z < x.2.length → ∃ v : Int, x.2.getD z.toNat [] = [.int .i64 v] ∧ 0 ≤ v ∧ r[v.toNat]? = some t) (fun x => r.length - x.1.toNat) (0, []) (by cbv) ⟨by dsimp only [List.length_nil]; omega, fun z h1 h2 => by simp at h2; omega⟩ (by cbv) ?_
  rintro ⟨j, vs⟩ ⟨h1, h2⟩
  dsimp only at h1 h2
  refine wp_at (by cbv) ?_
  by_cases hj : j < r.length
  · obtain ⟨u, hu1, hu2, hu3⟩ := hg (r.length - 1 - j) j.toNat (by omega) (by omega)
    have hc := call29 (hR.sub (by kernel_rfl)) u t (hrs u hu2) ht
    rw [hty] at hc
    have hsame := @Ty.same_iff u t
    generalize u.enc = ru at *
    generalize u.same t = sm at *
    cases sm with
    | false =>
      repeat' (first | refine uU ?_ | refine uV fun z hz => ?_ | refine uW fun zs hzs => ?_ | refine dq (fun hq => ?_) fun hq => ?_)
      refine di (row := ru) ?_ (hr := by rw [← hu3]; congr 2; omega)
      repeat' (first | refine uU ?_ | refine uV fun z hz => ?_ | refine uW fun zs hzs => ?_ | refine dq (fun hq => ?_) fun hq => ?_)
      exact again_normal (z, vs) ⟨by dsimp only; omega, h2⟩ (by dsimp only; omega) (by cbv)
    | true =>
      have hut := hsame.1 rfl
      repeat' (first | refine uU ?_ | refine uV fun z hz => ?_ | refine uW fun zs hzs => ?_ | refine dq (fun hq => ?_) fun hq => ?_)
      refine di (row := ru) ?_ (hr := by rw [← hu3]; congr 2; omega)
      repeat' (first | refine uU ?_ | refine uV fun z hz => ?_ | refine uW fun zs hzs => ?_ | refine dq (fun hq => ?_) fun hq => ?_)
      refine again_normal (z, zs) ⟨by dsimp only; rw [hzs]; simp only [List.length_append, List.length_cons, List.length_nil]; omega, fun y h3 h4 => ?_⟩ (by dsimp only; omega) (by cbv)
      dsimp only at h4 ⊢
      rw [hzs] at h4 ⊢
      simp only [List.length_append, List.length_cons, List.length_nil] at h4
      by_cases hy : y < vs.length
      · obtain ⟨v, e1, e2⟩ := h2 y h3 hy
        refine ⟨v, ?_, e2⟩
        rw [← e1]
        simp only [List.getD_eq_getElem?_getD]
        rw [List.getElem?_append_left (by omega)]
      · refine ⟨j, ?_, by omega, by rw [hu1, hut]⟩
        simp only [List.getD_eq_getElem?_getD]
        rw [List.getElem?_append_right (by omega), show y.toNat - vs.length = 0 by omega]
        rfl
  · repeat' (first | refine uU ?_ | refine uV fun z hz => ?_ | refine uW fun zs hzs => ?_ | refine dq (fun hq => ?_) fun hq => ?_)
    exact finP_ret (by cbv) ⟨_, (), rfl, by omega, h2⟩
end
end Eng

