/- The references' functions on formulas. -/
import Derived.Test.YtjfkhhfdfebpeaaGreatDoorEngT
import Derived.Test.YtjfkhhfdfebpeaaGreatDoorEngTab
import Derived.Test.YtjfkhhfdfebpeaaGreatDoorEngW2
import Derived.Test.YtjfkhhfdfebpeaaGreatDoorEngW3
import Derived.Test.YtjfkhhfdfebpeaaGreatDoorEngW4
import Derived.Test.YtjfkhhfdfebpeaaGreatDoorEngZ
set_option linter.all false
set_option linter.unusedVariables false
set_option linter.unusedSimpArgs false
set_option maxRecDepth 100000
set_option maxHeartbeats 4000000
namespace Eng
open Go
section
variable {R : RProg} {G : Nat → AV}
theorem call91 (hR : Has R G c91) (k : Int) : (Lim R G).call 91 [.pl (.int .i64 (k))] [] = some (.pl (.bool (decide (Fm.quant k))), []) := by
  refine call_of (hR.at 91 (by kernel_rfl) tab91) (by rfl) ?_
  repeat' (first | refine uU ?_ | refine uV fun z hz => ?_ | refine uW fun zs hzs => ?_ | refine dq (fun hq => ?_) fun hq => ?_)
  all_goals first
    | (refine fin_ret ?_; rw [decide_eq_true (show Fm.quant k by unfold Fm.quant; omega)]; cbv)
    | (refine fin_ret ?_; rw [decide_eq_false (show ¬ Fm.quant k by unfold Fm.quant; omega)]; cbv)
theorem call94 (hR : Has R G c94) (f : Fm) : (Lim R G).call 94 [.st 5 f.enc] [] = some (.pl (.int .i64 (Fm.bnd f.kind)), []) := by
  obtain ⟨k, t, ts, as⟩ := f
  have hc := call91 (hR.sub (by kernel_rfl)) k
  refine call_of (hR.at 94 (by kernel_rfl) tab94) (by rfl) ?_
  show WP _ _ _ _ (fin _ _ (.pl (.int .i64 (Fm.bnd k)), []))
  have hb : (Fm.quant k → Fm.bnd k = 1) ∧ (¬ Fm.quant k → Fm.bnd k = 0) := ⟨fun h => if_pos h, fun h => if_neg h⟩
  generalize Fm.bnd k = bk at *
  simp only [Fm.enc]
  generalize Ty.encs t.args = rt at *
  generalize t.kind = tk at *
  generalize Fm.encs as = rs at *
  generalize Tm.encs ts = rs' at *
  by_cases h : Fm.quant k
  · rw [decide_eq_true h] at hc
    repeat' (first | refine uU ?_ | refine uV fun z hz => ?_ | refine uW fun zs hzs => ?_ | refine dq (fun hq => ?_) fun hq => ?_)
    (refine fin_ret ?_; rw [hb.1 h]; cbv)
  · rw [decide_eq_false h] at hc
    repeat' (first | refine uU ?_ | refine uV fun z hz => ?_ | refine uW fun zs hzs => ?_ | refine dq (fun hq => ?_) fun hq => ?_)
    (refine fin_ret ?_; rw [hb.2 h]; cbv)
theorem call80 (hR : Has R G c80) : ∀ (f : Fm), f.size < 2 ^ 31 → (Lim R G).call 80 [.st 5 f.enc] [] = some (.pl (.bool (f.ok)), []) := by
  refine Fm.ind fun k t ts as ih hs => ?_
  simp only [Fm.size] at hs
  have hcE := call92 (hR.sub (by kernel_rfl)) t (by omega)
  have hcZ := call89 (hR.sub (by kernel_rfl)) t
  have hcQ := call91 (hR.sub (by kernel_rfl)) k
  refine call_of (hR.at 80 (by kernel_rfl) tab80) (by rfl) ?_
  rw [Ty.enc_eq] at hcE hcZ
  simp only [Fm.enc, Fm.ok, Fm.tyOk]
  have hl := Fm.encs_len as
  have hl2 := Fm.sizes_len as
  have hl' := Tm.encs_len ts
  have hl2' := Tm.sizes_len ts
  by_cases hk : k = 1
  · rw [decide_eq_false (show ¬ Fm.quant k by unfold Fm.quant; omega)] at hcQ ⊢
    rw [cond_false]
    by_cases hA : ts.length = 2 ∧ as.length = 0
    · rw [decide_eq_true (show Fm.kindOk k ts.length as.length from .inl (by omega))]
      obtain rfl := List.eq_nil_of_length_eq_zero hA.2
      obtain ⟨x, y, rfl⟩ : ∃ x y, ts = [x, y] := match ts, hA.1 with
        | [x, y], _ => ⟨x, y, rfl⟩
      simp only [Tm.sizes] at hs
      have h1 := call90 (hR.sub (by kernel_rfl)) x (by omega)
      have h2 := call90 (hR.sub (by kernel_rfl)) y (by omega)
      simp only [Tm.encs, Fm.encs, Tm.oks, Fm.oks] at *
      generalize t.err = er at *
      generalize t.zero = ze at *
      generalize Ty.encs t.args = rt at *
      generalize t.kind = tk at *
      generalize x.enc = rx at *
      generalize y.enc = ry at *
      generalize x.ok = ox at *
      generalize y.ok = oy at *
      cases ze <;> cases ox <;> cases oy <;> (
        repeat' (first | refine uU ?_ | refine uV fun z hz => ?_ | refine uW fun zs hzs => ?_ | refine dq (fun hq => ?_) fun hq => ?_)
        (refine fin_ret ?_; cbv)
        )
    · rw [decide_eq_false (show ¬ Fm.kindOk k ts.length as.length by unfold Fm.kindOk Fm.quant; omega), Bool.false_and]
      generalize t.err = er at *
      generalize t.zero = ze at *
      generalize Ty.encs t.args = rt at *
      generalize t.kind = tk at *
      generalize Fm.encs as = rs at *
      generalize Tm.encs ts = rs' at *
      cases ze <;> (
        repeat' (first | refine uU ?_ | refine uV fun z hz => ?_ | refine uW fun zs hzs => ?_ | refine dq (fun hq => ?_) fun hq => ?_)
        all_goals (refine fin_ret ?_; cbv)
        )
  · by_cases hk2 : k = 2 ∨ k = 3
    · rw [decide_eq_false (show ¬ Fm.quant k by unfold Fm.quant; omega)] at hcQ ⊢
      rw [cond_false]
      by_cases hA : ts.length = 0 ∧ as.length = 2
      · rw [decide_eq_true (show Fm.kindOk k ts.length as.length from .inr (.inl (by omega)))]
        obtain rfl := List.eq_nil_of_length_eq_zero hA.1
        obtain ⟨x, y, rfl⟩ : ∃ x y, as = [x, y] := match as, hA.2 with
          | [x, y], _ => ⟨x, y, rfl⟩
        simp only [Fm.sizes] at hs
        have h1 := ih x (by simp) (by omega)
        have h2 := ih y (by simp) (by omega)
        clear ih
        simp only [Tm.encs, Fm.encs, Tm.oks, Fm.oks] at *
        generalize t.err = er at *
        generalize t.zero = ze at *
        generalize Ty.encs t.args = rt at *
        generalize t.kind = tk at *
        generalize x.enc = rx at *
        generalize y.enc = ry at *
        generalize x.ok = ox at *
        generalize y.ok = oy at *
        rcases hk2 with rfl | rfl <;> cases ze <;> cases ox <;> cases oy <;> (
          repeat' (first | refine uU ?_ | refine uV fun z hz => ?_ | refine uW fun zs hzs => ?_ | refine dq (fun hq => ?_) fun hq => ?_)
          (refine fin_ret ?_; cbv)
          )
      · rw [decide_eq_false (show ¬ Fm.kindOk k ts.length as.length by unfold Fm.kindOk Fm.quant; omega), Bool.false_and]
        clear ih
        generalize t.err = er at *
        generalize t.zero = ze at *
        generalize Ty.encs t.args = rt at *
        generalize t.kind = tk at *
        generalize Fm.encs as = rs at *
        generalize Tm.encs ts = rs' at *
        rcases hk2 with rfl | rfl <;> cases ze <;> (
          repeat' (first | refine uU ?_ | refine uV fun z hz => ?_ | refine uW fun zs hzs => ?_ | refine dq (fun hq => ?_) fun hq => ?_)
          all_goals (refine fin_ret ?_; cbv)
          )
    · by_cases hq : Fm.quant k
      · rw [decide_eq_true hq] at hcQ ⊢
        rw [cond_true]
        by_cases hA : ts.length = 0 ∧ as.length = 1
        · rw [decide_eq_true (show Fm.kindOk k ts.length as.length from .inr (.inr ⟨hq, hA⟩))]
          obtain rfl := List.eq_nil_of_length_eq_zero hA.1
          obtain ⟨x, rfl⟩ : ∃ x, as = [x] := match as, hA.2 with
            | [x], _ => ⟨x, rfl⟩
          simp only [Fm.sizes] at hs
          have h1 := ih x (by simp) (by omega)
          clear ih hq
          simp only [Tm.encs, Fm.encs, Tm.oks, Fm.oks] at *
          generalize t.err = er at *
          generalize t.zero = ze at *
          generalize Ty.encs t.args = rt at *
          generalize t.kind = tk at *
          generalize x.enc = rx at *
          generalize x.ok = ox at *
          by_cases he : er = 0
          · rw [decide_eq_true he]
            cases ox <;> (
              repeat' (first | refine uU ?_ | refine uV fun z hz => ?_ | refine uW fun zs hzs => ?_ | refine dq (fun hq => ?_) fun hq => ?_)
              (refine fin_ret ?_; cbv)
              )
          · rw [decide_eq_false he]
            cases ox <;> (
              repeat' (first | refine uU ?_ | refine uV fun z hz => ?_ | refine uW fun zs hzs => ?_ | refine dq (fun hq => ?_) fun hq => ?_)
              (refine fin_ret ?_; cbv)
              )
        · rw [decide_eq_false (show ¬ Fm.kindOk k ts.length as.length by unfold Fm.kindOk; omega), Bool.false_and]
          clear ih hq
          generalize t.err = er at *
          generalize t.zero = ze at *
          generalize Ty.encs t.args = rt at *
          generalize t.kind = tk at *
          generalize Fm.encs as = rs at *
          generalize Tm.encs ts = rs' at *
          repeat' (first | refine uU ?_ | refine uV fun z hz => ?_ | refine uW fun zs hzs => ?_ | refine dq (fun hq => ?_) fun hq => ?_)
          all_goals (refine fin_ret ?_; cbv)
      · rw [decide_eq_false (show ¬ Fm.kindOk k ts.length as.length from fun h => by rcases h with h | h | h; omega; omega; exact hq h.1), Bool.false_and]
        rw [decide_eq_false hq] at hcQ
        clear ih hq
        generalize t.err = er at *
        generalize t.zero = ze at *
        generalize Ty.encs t.args = rt at *
        generalize t.kind = tk at *
        generalize Fm.encs as = rs at *
        generalize Tm.encs ts = rs' at *
        repeat' (first | refine uU ?_ | refine uV fun z hz => ?_ | refine uW fun zs hzs => ?_ | refine dq (fun hq => ?_) fun hq => ?_)
        all_goals (refine fin_ret ?_; cbv)
theorem call63 (hR : Has R G c63) : ∀ (f : Fm), f.size < 2 ^ 31 → (Lim R G).call 63 [.st 5 f.enc] [] = some (.pl (.int .i64 (f.num)), []) := by
  refine Fm.ind fun k t ts as ih hs => ?_
  simp only [Fm.size] at hs
  refine call_of (hR.at 63 (by kernel_rfl) tab63) (by rfl) ?_
  simp only [Fm.enc, Fm.num]
  have hl := Fm.encs_len as
  have hl2 := Fm.sizes_len as
  have hl3 := Fm.nums_le as
  generalize hr : Fm.encs as = rs at hl ⊢
  have hl' := Tm.encs_len ts
  have hl2' := Tm.sizes_len ts
  have hl3' := Tm.nums_le ts
  generalize hr' : Tm.encs ts = rs' at hl' ⊢
  generalize Ty.encs t.args = rt at *
  generalize t.kind = tk at *
  repeat' (first | refine uU ?_ | refine uV fun z hz => ?_ | refine uW fun zs hzs => ?_ | refine dq (fun hq => ?_) fun hq => ?_)
  refine wploop (σ := Int × Int) (fun x => [(11, .pl (.int .i64 x.1)), (3, .pl (.int .i64 x.2))]) (fun _ => []) (fun x => 0 ≤ x.1 ∧ x.1 ≤ ts.length ∧ 0 ≤ x.2 ∧ x.2 + Tm.nums (ts.drop x.1.toNat) = Tm.nums ts + 1) (fun x => ts.length - x.1.toNat) (0, 1) (by cbv) ⟨by omega, by omega, by omega, by simp <;> omega⟩ (by cbv) ?_
  rintro ⟨j, n⟩ ⟨hj1, hj2, hj3, hj4⟩
  dsimp only at hj1 hj2 hj3 hj4
  refine wp_at (by cbv) ?_
  by_cases hj : j < ts.length
  · obtain ⟨a, ha, hd, he⟩ := Tm.at_ (as := ts) (n := j) (by omega)
    rw [hr'] at he
    rw [hd] at hj4
    simp only [Tm.nums] at hj4
    have hc := call82 (hR.sub (by kernel_rfl)) a (by have := Tm.size_mem ha; omega)
    generalize Tm.enc a = row at hc he
    generalize hcs : ((Tm.num a : Nat) : Int) = c at hc
    repeat' (first | refine uU ?_ | refine uV fun z hz => ?_ | refine uW fun zs hzs => ?_ | refine dq (fun hq => ?_) fun hq => ?_)
    rename_i z1 hz1
    exact again_normal (z, z1) ⟨by dsimp only; omega, by dsimp only; omega, by dsimp only; omega, by dsimp only; rw [hz]; omega⟩ (by dsimp only; omega) (by cbv)
  · rw [drop_all hj1 (by omega)] at hj4
    simp only [Tm.nums] at hj4
    repeat' (first | refine uU ?_ | refine uV fun z hz => ?_ | refine uW fun zs hzs => ?_ | refine dq (fun hq => ?_) fun hq => ?_)
    obtain ⟨m, hmn⟩ : ∃ m, m = n := ⟨n, rfl⟩
    subst hmn
    have hm : (m : Int) = Tm.nums ts + 1 := by omega
    clear hj3 hj4
    refine wploop (σ := Int × Int) (fun x => [(23, .pl (.int .i64 x.1)), (3, .pl (.int .i64 x.2))]) (fun _ => []) (fun x => 0 ≤ x.1 ∧ x.1 ≤ as.length ∧ 0 ≤ x.2 ∧ x.2 + Fm.nums (as.drop x.1.toNat) = Fm.nums as + m) (fun x => as.length - x.1.toNat) (0, m) (by cbv) ⟨by omega, by omega, by omega, by simp <;> omega⟩ (by cbv) ?_
    rintro ⟨j, n⟩ ⟨hj1, hj2, hj3, hj4⟩
    dsimp only at hj1 hj2 hj3 hj4
    refine wp_at (by cbv) ?_
    by_cases hj : j < as.length
    · obtain ⟨a, ha, hd, he⟩ := Fm.at_ (as := as) (n := j) (by omega)
      rw [hr] at he
      rw [hd] at hj4
      simp only [Fm.nums] at hj4
      have hc := ih a ha (by have := Fm.size_mem ha; omega)
      generalize Fm.enc a = row at hc he
      generalize hcs : ((Fm.num a : Nat) : Int) = c at hc
      repeat' (first | refine uU ?_ | refine uV fun z hz => ?_ | refine uW fun zs hzs => ?_ | refine dq (fun hq => ?_) fun hq => ?_)
      rename_i z1 hz1
      exact again_normal (z, z1) ⟨by dsimp only; omega, by dsimp only; omega, by dsimp only; omega, by dsimp only; rw [hz]; omega⟩ (by dsimp only; omega) (by cbv)
    · rw [drop_all hj1 (by omega)] at hj4
      simp only [Fm.nums] at hj4
      repeat' (first | refine uU ?_ | refine uV fun z hz => ?_ | refine uW fun zs hzs => ?_ | refine dq (fun hq => ?_) fun hq => ?_)
      (refine fin_ret ?_; rw [show ((Tm.nums ts + Fm.nums as + 1 : Nat) : Int) = n by omega]; cbv)
theorem call60 (hR : Has R G c60) (f : Fm) (hs : f.size < 2 ^ 31) : (Lim R G).call 60 [.st 5 f.enc] [] = some (.pl (.int .i64 (f.err)), []) := by
  have h1 := call80 (hR.sub (by kernel_rfl)) f hs
  have h2 := call63 (hR.sub (by kernel_rfl)) f hs
  have hn := Fm.num_le f
  refine call_of (hR.at 60 (by kernel_rfl) tab60) (by rfl) ?_
  unfold Fm.err
  generalize hni : (f.num : Int) = ni at *
  generalize f.num = n at *
  generalize f.enc = row at *
  generalize f.ok = ok at *
  cases ok with
  | false =>
    repeat' (first | refine uU ?_ | refine uV fun z hz => ?_ | refine uW fun zs hzs => ?_ | refine dq (fun hq => ?_) fun hq => ?_)
    (refine fin_ret ?_; rw [if_neg (by simp)]; cbv)
  | true =>
    repeat' (first | refine uU ?_ | refine uV fun z hz => ?_ | refine uW fun zs hzs => ?_ | refine dq (fun hq => ?_) fun hq => ?_)
    · (refine fin_ret ?_; rw [if_pos rfl, if_pos (show n > 4096 by omega)]; cbv)
    · (refine fin_ret ?_; rw [if_pos rfl, if_neg (show ¬ n > 4096 by omega)]; cbv)
end
end Eng

