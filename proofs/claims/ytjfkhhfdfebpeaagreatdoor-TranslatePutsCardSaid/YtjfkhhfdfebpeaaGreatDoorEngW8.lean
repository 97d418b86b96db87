/- The program's functions on formulas. -/
import Derived.Test.YtjfkhhfdfebpeaaGreatDoorEngT
import Derived.Test.YtjfkhhfdfebpeaaGreatDoorEngTab
import Derived.Test.YtjfkhhfdfebpeaaGreatDoorEngW2
import Derived.Test.YtjfkhhfdfebpeaaGreatDoorEngW7
import Derived.Test.YtjfkhhfdfebpeaaGreatDoorEngZ
set_option linter.all false
set_option linter.unusedVariables false
set_option linter.unusedSimpArgs false
set_option maxRecDepth 100000
set_option maxHeartbeats 4000000
namespace Eng
open Go
section
variable {R : RProg} {G : Nat → AV}
theorem call85N (hR : Has R G c85) {kc : Nat} {σ : Type} {e : σ → PV} {g : σ → Tm → Int → σ} (hof : ∀ s t b, t.size < 2 ^ 31 → 0 ≤ b ∧ b ≤ 2 ^ 40 → (Lim R G).call kc [.st 5 (Tm.enc t), .pl (.int .i64 (b)), .ptr 0 0] [.box 1 (.pl (e s))] = some (.tup [], [.box 1 (.pl (e (g s t b)))])) :
    ∀ (f : Fm) (b : Int) (s : σ), f.size < 2 ^ 31 ∧ (0 ≤ b ∧ b + f.size < 2 ^ 40) →
    (Lim R G).call 85 [.st 5 f.enc, .pl (.int .i64 (b)), .fn kc [.ptr 0 0]] [.box 1 (.pl (e s))] = some (.tup [], [.box 1 (.pl (e (Fm.tf g f b s)))]) := by
  refine Fm.ind fun k t ts as ih b s hh => ?_
  simp only [Fm.size] at hh
  have hcQ := call78 (hR.sub (by kernel_rfl)) k
  generalize hQ : decide (Fm.quant k) = qb at hcQ
  refine call_of (hR.at 85 (by kernel_rfl) tab85) (by rfl) ?_
  simp only [Fm.tf, Fm.enc]
  have hl := Fm.encs_len as
  have hl2 := Fm.sizes_len as
  generalize hr : Fm.encs as = rs at hl ⊢
  have hl' := Tm.encs_len ts
  have hl2' := Tm.sizes_len ts
  generalize hr' : Tm.encs ts = rs' at hl' ⊢
  generalize Ty.encs t.args = rt at *
  generalize t.kind = tk at *
  have hb2 : ∃ b2, b2 = b + Fm.bnd k ∧ (Fm.quant k → b2 = b + 1) ∧ (¬ Fm.quant k → b2 = b) := ⟨_, rfl, fun h => by simp [Fm.bnd, h], fun h => by simp [Fm.bnd, h]⟩
  obtain ⟨b2, hb2, hb3, hb4⟩ := hb2
  rw [← hb2]
  generalize hu : e (Fm.tfs g as b2 (Tm.tfs g ts b s)) = u
  generalize hes1 : e s = es1 at *
  repeat' (first | refine uU ?_ | refine uV fun z hz => ?_ | refine uW fun zs hzs => ?_ | refine dq (fun hq => ?_) fun hq => ?_)
  subst hes1
  refine wploop (σ := Int × σ) (fun x => [(13, .pl (.int .i64 x.1))]) (fun x => [(0, .box 1 (.pl (e x.2)))]) (fun x => 0 ≤ x.1 ∧ x.1 ≤ ts.length ∧ Tm.tfs g (ts.drop x.1.toNat) b x.2 = Tm.tfs g ts b s) (fun x => ts.length - x.1.toNat) (0, s) (by cbv) ⟨by omega, by omega, by simp⟩ (by cbv) ?_
  rintro ⟨j, n⟩ ⟨hj1, hj2, hj3⟩
  dsimp only at hj1 hj2 hj3
  refine wp_at (by cbv) ?_
  by_cases hj : j < ts.length
  · obtain ⟨a, ha, hd, he⟩ := Tm.at_ (as := ts) (n := j) (by omega)
    rw [hr'] at he
    rw [hd] at hj3
    simp only [Tm.tfs] at hj3
    have hc := hof n a b (by have := Tm.size_mem ha; omega) (by omega)
    generalize Tm.enc a = row at hc he
    generalize g n a b = n2 at hc hj3
    generalize e n = e1 at hc ⊢
    generalize he2 : e n2 = e2 at hc ⊢
    repeat' (first | refine uU ?_ | refine uV fun z hz => ?_ | refine uW fun zs hzs => ?_ | refine dq (fun hq => ?_) fun hq => ?_)
    subst he2
    exact again_normal (z, n2) ⟨by dsimp only; omega, by dsimp only; omega, by dsimp only; rw [hz]; exact hj3⟩ (by dsimp only; omega) (by cbv)
  · rw [drop_all hj1 (by omega)] at hj3
    simp only [Tm.tfs] at hj3
    rw [← hj3] at hu
    clear hj3
    generalize hen : e n = en
    cases qb with
    | true =>
      have hb5 := hb3 (of_decide_eq_true hQ)
      repeat' (first | refine uU ?_ | refine uV fun z hz => ?_ | refine uW fun zs hzs => ?_ | refine dq (fun hq => ?_) fun hq => ?_)
      rename_i z1 hz1
      obtain rfl : b2 = z1 := by omega
      subst hen
      refine wploop (σ := Int × σ) (fun x => [(30, .pl (.int .i64 x.1))]) (fun x => [(0, .box 1 (.pl (e x.2)))]) (fun x => 0 ≤ x.1 ∧ x.1 ≤ as.length ∧ Fm.tfs g (as.drop x.1.toNat) b2 x.2 = Fm.tfs g as b2 n) (fun x => as.length - x.1.toNat) (0, n) (by cbv) ⟨by omega, by omega, by simp⟩ (by cbv) ?_
      rintro ⟨j, n⟩ ⟨hj1, hj2, hj3⟩
      dsimp only at hj1 hj2 hj3
      refine wp_at (by cbv) ?_
      by_cases hj : j < as.length
      · obtain ⟨a, ha, hd, he⟩ := Fm.at_ (as := as) (n := j) (by omega)
        rw [hr] at he
        rw [hd] at hj3
        simp only [Fm.tfs] at hj3
        have hc := ih a ha b2 n (by have := Fm.size_mem ha; omega)
        generalize Fm.enc a = row at hc he
        generalize Fm.tf g a b2 n = n2 at hc hj3
        generalize e n = e1 at hc ⊢
        generalize he2 : e n2 = e2 at hc ⊢
        repeat' (first | refine uU ?_ | refine uV fun z hz => ?_ | refine uW fun zs hzs => ?_ | refine dq (fun hq => ?_) fun hq => ?_)
        subst he2
        exact again_normal (z, n2) ⟨by dsimp only; omega, by dsimp only; omega, by dsimp only; rw [hz]; exact hj3⟩ (by dsimp only; omega) (by cbv)
      · rw [drop_all hj1 (by omega)] at hj3
        simp only [Fm.tfs] at hj3
        rw [← hj3] at hu
        subst hu
        generalize e n = en
        repeat' (first | refine uU ?_ | refine uV fun z hz => ?_ | refine uW fun zs hzs => ?_ | refine dq (fun hq => ?_) fun hq => ?_)
        (refine fin_normal ?_; cbv)
    | false =>
      have hb5 := hb4 (of_decide_eq_false hQ)
      subst hb5
      repeat' (first | refine uU ?_ | refine uV fun z hz => ?_ | refine uW fun zs hzs => ?_ | refine dq (fun hq => ?_) fun hq => ?_)
      subst hen
      refine wploop (σ := Int × σ) (fun x => [(30, .pl (.int .i64 x.1))]) (fun x => [(0, .box 1 (.pl (e x.2)))]) (fun x => 0 ≤ x.1 ∧ x.1 ≤ as.length ∧ Fm.tfs g (as.drop x.1.toNat) b2 x.2 = Fm.tfs g as b2 n) (fun x => as.length - x.1.toNat) (0, n) (by cbv) ⟨by omega, by omega, by simp⟩ (by cbv) ?_
      rintro ⟨j, n⟩ ⟨hj1, hj2, hj3⟩
      dsimp only at hj1 hj2 hj3
      refine wp_at (by cbv) ?_
      by_cases hj : j < as.length
      · obtain ⟨a, ha, hd, he⟩ := Fm.at_ (as := as) (n := j) (by omega)
        rw [hr] at he
        rw [hd] at hj3
        simp only [Fm.tfs] at hj3
        have hc := ih a ha b2 n (by have := Fm.size_mem ha; omega)
        generalize Fm.enc a = row at hc he
        generalize Fm.tf g a b2 n = n2 at hc hj3
        generalize e n = e1 at hc ⊢
        generalize he2 : e n2 = e2 at hc ⊢
        repeat' (first | refine uU ?_ | refine uV fun z hz => ?_ | refine uW fun zs hzs => ?_ | refine dq (fun hq => ?_) fun hq => ?_)
        subst he2
        exact again_normal (z, n2) ⟨by dsimp only; omega, by dsimp only; omega, by dsimp only; rw [hz]; exact hj3⟩ (by dsimp only; omega) (by cbv)
      · rw [drop_all hj1 (by omega)] at hj3
        simp only [Fm.tfs] at hj3
        rw [← hj3] at hu
        subst hu
        generalize e n = en
        repeat' (first | refine uU ?_ | refine uV fun z hz => ?_ | refine uW fun zs hzs => ?_ | refine dq (fun hq => ?_) fun hq => ?_)
        (refine fin_normal ?_; cbv)
theorem call84 (hR : Has R G c84) (t : Tm) (b : Int) (nr : Bool) (hs : t.size < 2 ^ 31) : (Lim R G).call 84 [.st 5 t.enc, .pl (.int .i64 (b)), .ptr 0 0] [.box 1 (.pl (.bool (nr)))] = some (.tup [], [.box 1 (.pl (.bool (nr && Tm.vf (fun s i _ => s && decide (i ≤ 536870912)) t 0 true)))]) := by
  have hc := call95 (hR.sub (by kernel_rfl)) t hs
  refine call_of (hR.at 84 (by kernel_rfl) tab84) (by rfl) ?_
  generalize Tm.enc t = row at *
  generalize Tm.vf _ t 0 true = q at *
  cases nr with
  | false =>
    rw [Bool.false_and]
    repeat' (first | refine uU ?_ | refine uV fun z hz => ?_ | refine uW fun zs hzs => ?_ | refine dq (fun hq => ?_) fun hq => ?_)
    (refine fin_normal ?_; cbv)
  | true =>
    rw [Bool.true_and]
    repeat' (first | refine uU ?_ | refine uV fun z hz => ?_ | refine uW fun zs hzs => ?_ | refine dq (fun hq => ?_) fun hq => ?_)
    (refine fin_normal ?_; cbv)
theorem call74 (hR : Has R G c74) (f : Fm) (hs : f.size < 2 ^ 31) :
    (Lim R G).call 74 [.st 5 f.enc] [] = some (.pl (.bool (Fm.tf (fun s t _ => s && Tm.vf (fun s i _ => s && decide (i ≤ 536870912)) t 0 true) f 0 true)), []) := by
  have hc := call85N (hR.sub (by kernel_rfl)) (e := fun b => .bool b) (g := fun s t _ => s && Tm.vf (fun s i _ => s && decide (i ≤ 536870912)) t 0 true) (fun s t b ht _ => call84 (hR.sub (by kernel_rfl)) t b s ht) f 0 true (by omega)
  refine call_of (hR.at 74 (by kernel_rfl) tab74) (by rfl) ?_
  generalize Fm.enc f = row at *
  generalize Fm.tf _ f 0 true = e2 at *
  repeat' (first | refine uU ?_ | refine uV fun z hz => ?_ | refine uW fun zs hzs => ?_ | refine dq (fun hq => ?_) fun hq => ?_)
  (refine fin_ret ?_; cbv)
theorem call87 (hR : Has R G c87) (f : Fm) (hs : f.size < 2 ^ 31) : ∀ (k : Int) (t : Ty) (ts : List Tm) (as : List Fm), f = .mk k t ts as →
    (Lim R G).call 87 [.st 5 f.enc] [] = some (.pl (.bool (decide (Fm.kindOk k ts.length as.length) && Fm.tyOk k t)), []) := by
  rintro k t ts as rfl
  simp only [Fm.size] at hs
  have hcE := call97 (hR.sub (by kernel_rfl)) t (by omega)
  have hcZ := call98 (hR.sub (by kernel_rfl)) t
  refine call_of (hR.at 87 (by kernel_rfl) tab87) (by rfl) ?_
  rw [Ty.enc_eq] at hcE hcZ
  simp only [Fm.enc, Fm.tyOk]
  generalize (if t.err = 0 then (t.size : Int) else 0) = n0 at hcE
  have hl := Fm.encs_len as
  have hl2 := Fm.sizes_len as
  have hl' := Tm.encs_len ts
  have hl2' := Tm.sizes_len ts
  generalize Ty.err t = er at *
  generalize Ty.zero t = ze at *
  generalize Ty.encs t.args = rt at *
  generalize t.kind = tk at *
  generalize Fm.encs as = rs at *
  generalize Tm.encs ts = rs' at *
  have hX : ∃ x, x = (decide (Fm.kindOk k ts.length as.length) && bif decide (Fm.quant k) then decide (er = 0) else ze) ∧
      (¬ (k = 1 ∧ ts.length = 2 ∧ as.length = 0 ∨ (k = 2 ∨ k = 3) ∧ ts.length = 0 ∧ as.length = 2 ∨ (k = 4 ∨ k = 5 ∨ k = 6 ∨ k = 7) ∧ ts.length = 0 ∧ as.length = 1) → x = false) ∧
      (k = 4 ∨ k = 5 ∨ k = 6 ∨ k = 7 → er ≠ 0 → x = false) ∧ (¬ (k = 4 ∨ k = 5 ∨ k = 6 ∨ k = 7) → ze = false → x = false) ∧
      ((k = 1 ∧ ts.length = 2 ∧ as.length = 0 ∨ (k = 2 ∨ k = 3) ∧ ts.length = 0 ∧ as.length = 2) → ze = true → x = true) ∧
      ((k = 4 ∨ k = 5 ∨ k = 6 ∨ k = 7) ∧ ts.length = 0 ∧ as.length = 1 → er = 0 → x = true) := by
    have hkO : Fm.kindOk k ts.length as.length ↔ k = 1 ∧ ts.length = 2 ∧ as.length = 0 ∨ (k = 2 ∨ k = 3) ∧ ts.length = 0 ∧ as.length = 2 ∨ (k = 4 ∨ k = 5 ∨ k = 6 ∨ k = 7) ∧ ts.length = 0 ∧ as.length = 1 := Iff.rfl
    have hkQ : Fm.quant k ↔ k = 4 ∨ k = 5 ∨ k = 6 ∨ k = 7 := Iff.rfl
    refine ⟨_, rfl, fun h => ?_, fun h1 h2 => ?_, fun h1 h2 => ?_, fun h1 h2 => ?_, fun h1 h2 => ?_⟩
    · rw [decide_eq_false (show ¬ Fm.kindOk k ts.length as.length from h), Bool.false_and]
    · rw [decide_eq_true (hkQ.2 h1), decide_eq_false h2]; simp
    · rw [decide_eq_false (fun h => h1 (hkQ.1 h)), h2]; simp
    · rw [decide_eq_false (show ¬ Fm.quant k from fun h => by have := hkQ.1 h; omega), decide_eq_true (hkO.2 (by omega)), h2]; rfl
    · rw [decide_eq_true (hkQ.2 h1.1), decide_eq_true (hkO.2 (by omega)), decide_eq_true h2]; rfl
  obtain ⟨x, hx, x1, x2, x3, x4, x5⟩ := hX
  rw [← hx]
  clear hx
  cases ze with
  | false =>
    repeat' (first | refine uU ?_ | refine uV fun z hz => ?_ | refine uW fun zs hzs => ?_ | refine dq (fun hq => ?_) fun hq => ?_)
    all_goals first
      | (refine fin_ret ?_; rw [x1 (by omega)]; cbv)
      | (refine fin_ret ?_; rw [x2 (by omega) (by omega)]; cbv)
      | (refine fin_ret ?_; rw [x3 (by omega) rfl]; cbv)
      | (refine fin_ret ?_; rw [x5 (by omega) (by omega)]; cbv)
  | true =>
    repeat' (first | refine uU ?_ | refine uV fun z hz => ?_ | refine uW fun zs hzs => ?_ | refine dq (fun hq => ?_) fun hq => ?_)
    all_goals first
      | (refine fin_ret ?_; rw [x1 (by omega)]; cbv)
      | (refine fin_ret ?_; rw [x2 (by omega) (by omega)]; cbv)
      | (refine fin_ret ?_; rw [x4 (by omega) rfl]; cbv)
      | (refine fin_ret ?_; rw [x5 (by omega) (by omega)]; cbv)
end
end Eng

