/- tree.Each, Near; formulas rebuilt. -/
import Derived.Test.YtjfkhhfdfebpeaaGreatDoorEngT
import Derived.Test.YtjfkhhfdfebpeaaGreatDoorEngTab
import Derived.Test.YtjfkhhfdfebpeaaGreatDoorEngW2
import Derived.Test.YtjfkhhfdfebpeaaGreatDoorEngW3
import Derived.Test.YtjfkhhfdfebpeaaGreatDoorEngW6
import Derived.Test.YtjfkhhfdfebpeaaGreatDoorEngZ
set_option linter.all false
set_option linter.unusedVariables false
set_option linter.unusedSimpArgs false
set_option maxRecDepth 100000
set_option maxHeartbeats 4000000
namespace Eng
open Go
section
variable {R : RProg} {G : Nat → AV}
theorem call105 (hR : Has R G c105) (i b : Int) (nr : Bool) : (Lim R G).call 105 [.pl (.int .i64 (i)), .pl (.int .i64 (b)), .ptr 0 0] [.box 1 (.pl (.bool (nr)))] = some (.tup [], [.box 1 (.pl (.bool (nr && decide (i ≤ 536870912))))]) := by
  refine call_of (hR.at 105 (by kernel_rfl) tab105) (by rfl) ?_
  cases nr with
  | false =>
    rw [Bool.false_and]
    repeat' (first | refine uU ?_ | refine uV fun z hz => ?_ | refine uW fun zs hzs => ?_ | refine dq (fun hq => ?_) fun hq => ?_)
    (refine fin_normal ?_; cbv)
  | true =>
    rw [Bool.true_and]
    repeat' (first | refine uU ?_ | refine uV fun z hz => ?_ | refine uW fun zs hzs => ?_ | refine dq (fun hq => ?_) fun hq => ?_)
    · (refine fin_normal ?_; rw [decide_eq_true hq]; cbv)
    · (refine fin_normal ?_; rw [decide_eq_false hq]; cbv)
theorem call110N (hR : Has R G c110) {kc : Nat} {σ : Type} {e : σ → PV} {g : σ → Int → Int → σ} (hof : ∀ s i b, 0 ≤ b ∧ b ≤ 2 ^ 40 → (Lim R G).call kc [.pl (.int .i64 (i)), .pl (.int .i64 (b)), .ptr 0 0] [.box 1 (.pl (e s))] = some (.tup [], [.box 1 (.pl (e (g s i b)))])) :
    ∀ (t : Tm) (b : Int) (s : σ), t.size < 2 ^ 31 → (0 ≤ b ∧ b + t.size < 2 ^ 40) →
    (Lim R G).call 110 [.st 5 t.enc, .pl (.int .i64 (b)), .ptr 0 0, .ptr 1 0] [.box 1 (.fn kc [.ptr 2 0]), .box 1 (.fn 110 [.ptr 0 0, .ptr 1 0]), .box 1 (.pl (e s))] =
      some (.tup [], [.box 1 (.fn kc [.ptr 2 0]), .box 1 (.fn 110 [.ptr 0 0, .ptr 1 0]), .box 1 (.pl (e (Tm.vf g t b s)))]) := by
  refine Tm.ind fun k i t as ih b s hs hbb => ?_
  refine call_of (hR.at 110 (by kernel_rfl) tab110) (by rfl) ?_
  simp only [Tm.size] at hs hbb
  simp only [Tm.vf, Tm.enc]
  have hl := Tm.encs_len as
  have hl2 := Tm.sizes_len as
  generalize hr : Tm.encs as = rs at hl ⊢
  generalize Ty.encs t.args = rt at *
  generalize t.kind = tk at *
  have hb2 : ∃ b2, b2 = b + Tm.bnd k ∧ (k = 2 → b2 = b + 1) ∧ (k ≠ 2 → b2 = b) := ⟨_, rfl, fun h => by simp [Tm.bnd, h], fun h => by simp [Tm.bnd, h]⟩
  obtain ⟨b2, hb2, hb3, hb4⟩ := hb2
  rw [← hb2]
  by_cases hk : k = 1
  · rw [if_pos hk]
    have hc := hof s i b (by omega)
    obtain rfl : b2 = b := by omega
    generalize g s i b2 = s1 at *
    generalize hu : e (Tm.vfs g as b2 s1) = u
    generalize e s = es at *
    generalize hes1 : e s1 = es1 at *
    repeat' (first | refine uU ?_ | refine uV fun z hz => ?_ | refine uW fun zs hzs => ?_ | refine dq (fun hq => ?_) fun hq => ?_)
    subst hes1
    refine wploop (σ := Int × σ) (fun x => [(24, .pl (.int .i64 x.1))]) (fun x => [(2, .box 1 (.pl (e x.2)))]) (fun x => 0 ≤ x.1 ∧ x.1 ≤ as.length ∧ Tm.vfs g (as.drop x.1.toNat) b2 x.2 = Tm.vfs g as b2 s1) (fun x => as.length - x.1.toNat) (0, s1) (by cbv) ⟨by omega, by omega, by simp⟩ (by cbv) ?_
    rintro ⟨j, n⟩ ⟨hj1, hj2, hj3⟩
    dsimp only at hj1 hj2 hj3
    refine wp_at (by cbv) ?_
    by_cases hj : j < as.length
    · obtain ⟨a, ha, hd, he⟩ := Tm.at_ (as := as) (n := j) (by omega)
      rw [hr] at he
      rw [hd] at hj3
      simp only [Tm.vfs] at hj3
      have hc := ih a ha b2 n (by have := Tm.size_mem ha; omega) (by have := Tm.size_mem ha; omega)
      generalize Tm.enc a = row at hc he
      generalize Tm.vf g a b2 n = n2 at hc hj3
      generalize e n = e1 at hc ⊢
      generalize he2 : e n2 = e2 at hc ⊢
      repeat' (first | refine uU ?_ | refine uV fun z hz => ?_ | refine uW fun zs hzs => ?_ | refine dq (fun hq => ?_) fun hq => ?_)
      subst he2
      exact again_normal (z, n2) ⟨by dsimp only; omega, by dsimp only; omega, by dsimp only; rw [hz]; exact hj3⟩ (by dsimp only; omega) (by cbv)
    · rw [drop_all hj1 (by omega)] at hj3
      simp only [Tm.vfs] at hj3
      rw [← hj3] at hu
      subst hu
      generalize e n = en
      repeat' (first | refine uU ?_ | refine uV fun z hz => ?_ | refine uW fun zs hzs => ?_ | refine dq (fun hq => ?_) fun hq => ?_)
      (refine fin_normal ?_; cbv)
  · rw [if_neg hk]
    generalize hu : e (Tm.vfs g as b2 s) = u
    generalize hes1 : e s = es1 at *
    by_cases hk2 : k = 2
    · have hb5 := hb3 hk2
      repeat' (first | refine uU ?_ | refine uV fun z hz => ?_ | refine uW fun zs hzs => ?_ | refine dq (fun hq => ?_) fun hq => ?_)
      rename_i z1 hz1
      obtain rfl : b2 = z1 := by omega
      subst hes1
      refine wploop (σ := Int × σ) (fun x => [(24, .pl (.int .i64 x.1))]) (fun x => [(2, .box 1 (.pl (e x.2)))]) (fun x => 0 ≤ x.1 ∧ x.1 ≤ as.length ∧ Tm.vfs g (as.drop x.1.toNat) b2 x.2 = Tm.vfs g as b2 s) (fun x => as.length - x.1.toNat) (0, s) (by cbv) ⟨by omega, by omega, by simp⟩ (by cbv) ?_
      rintro ⟨j, n⟩ ⟨hj1, hj2, hj3⟩
      dsimp only at hj1 hj2 hj3
      refine wp_at (by cbv) ?_
      by_cases hj : j < as.length
      · obtain ⟨a, ha, hd, he⟩ := Tm.at_ (as := as) (n := j) (by omega)
        rw [hr] at he
        rw [hd] at hj3
        simp only [Tm.vfs] at hj3
        have hc := ih a ha b2 n (by have := Tm.size_mem ha; omega) (by have := Tm.size_mem ha; omega)
        generalize Tm.enc a = row at hc he
        generalize Tm.vf g a b2 n = n2 at hc hj3
        generalize e n = e1 at hc ⊢
        generalize he2 : e n2 = e2 at hc ⊢
        repeat' (first | refine uU ?_ | refine uV fun z hz => ?_ | refine uW fun zs hzs => ?_ | refine dq (fun hq => ?_) fun hq => ?_)
        subst he2
        exact again_normal (z, n2) ⟨by dsimp only; omega, by dsimp only; omega, by dsimp only; rw [hz]; exact hj3⟩ (by dsimp only; omega) (by cbv)
      · rw [drop_all hj1 (by omega)] at hj3
        simp only [Tm.vfs] at hj3
        rw [← hj3] at hu
        subst hu
        generalize e n = en
        repeat' (first | refine uU ?_ | refine uV fun z hz => ?_ | refine uW fun zs hzs => ?_ | refine dq (fun hq => ?_) fun hq => ?_)
        (refine fin_normal ?_; cbv)
    · have hb5 := hb4 hk2
      subst hb5
      repeat' (first | refine uU ?_ | refine uV fun z hz => ?_ | refine uW fun zs hzs => ?_ | refine dq (fun hq => ?_) fun hq => ?_)
      subst hes1
      refine wploop (σ := Int × σ) (fun x => [(24, .pl (.int .i64 x.1))]) (fun x => [(2, .box 1 (.pl (e x.2)))]) (fun x => 0 ≤ x.1 ∧ x.1 ≤ as.length ∧ Tm.vfs g (as.drop x.1.toNat) b2 x.2 = Tm.vfs g as b2 s) (fun x => as.length - x.1.toNat) (0, s) (by cbv) ⟨by omega, by omega, by simp⟩ (by cbv) ?_
      rintro ⟨j, n⟩ ⟨hj1, hj2, hj3⟩
      dsimp only at hj1 hj2 hj3
      refine wp_at (by cbv) ?_
      by_cases hj : j < as.length
      · obtain ⟨a, ha, hd, he⟩ := Tm.at_ (as := as) (n := j) (by omega)
        rw [hr] at he
        rw [hd] at hj3
        simp only [Tm.vfs] at hj3
        have hc := ih a ha b2 n (by have := Tm.size_mem ha; omega) (by have := Tm.size_mem ha; omega)
        generalize Tm.enc a = row at hc he
        generalize Tm.vf g a b2 n = n2 at hc hj3
        generalize e n = e1 at hc ⊢
        generalize he2 : e n2 = e2 at hc ⊢
        repeat' (first | refine uU ?_ | refine uV fun z hz => ?_ | refine uW fun zs hzs => ?_ | refine dq (fun hq => ?_) fun hq => ?_)
        subst he2
        exact again_normal (z, n2) ⟨by dsimp only; omega, by dsimp only; omega, by dsimp only; rw [hz]; exact hj3⟩ (by dsimp only; omega) (by cbv)
      · rw [drop_all hj1 (by omega)] at hj3
        simp only [Tm.vfs] at hj3
        rw [← hj3] at hu
        subst hu
        generalize e n = en
        repeat' (first | refine uU ?_ | refine uV fun z hz => ?_ | refine uW fun zs hzs => ?_ | refine dq (fun hq => ?_) fun hq => ?_)
        (refine fin_normal ?_; cbv)
theorem call106N (hR : Has R G c106) {kc : Nat} {σ : Type} {e : σ → PV} {g : σ → Int → Int → σ} (hof : ∀ s i b, 0 ≤ b ∧ b ≤ 2 ^ 40 → (Lim R G).call kc [.pl (.int .i64 (i)), .pl (.int .i64 (b)), .ptr 0 0] [.box 1 (.pl (e s))] = some (.tup [], [.box 1 (.pl (e (g s i b)))]))
    (t : Tm) (s : σ) (hs : t.size < 2 ^ 31) :
    (Lim R G).call 106 [.st 5 t.enc, .fn kc [.ptr 0 0]] [.box 1 (.pl (e s))] = some (.tup [], [.box 1 (.pl (e (Tm.vf g t 0 s)))]) := by
  have hc := call110N (hR.sub (by kernel_rfl)) hof t 0 s hs (by omega)
  refine call_of (hR.at 106 (by kernel_rfl) tab106) (by rfl) ?_
  generalize Tm.enc t = row at *
  generalize e (Tm.vf g t 0 s) = e2 at *
  generalize e s = e1 at *
  repeat' (first | refine uU ?_ | refine uV fun z hz => ?_ | refine uW fun zs hzs => ?_ | refine dq (fun hq => ?_) fun hq => ?_)
  (refine fin_normal ?_; cbv)
theorem call95 (hR : Has R G c95) (t : Tm) (hs : t.size < 2 ^ 31) :
    (Lim R G).call 95 [.st 5 t.enc] [] = some (.pl (.bool (Tm.vf (fun s i _ => s && decide (i ≤ 536870912)) t 0 true)), []) := by
  have hc := call106N (hR.sub (by kernel_rfl)) (e := fun b => .bool b) (g := fun s i _ => s && decide (i ≤ 536870912)) (fun s i b _ => call105 (hR.sub (by kernel_rfl)) i b s) t true hs
  refine call_of (hR.at 95 (by kernel_rfl) tab95) (by rfl) ?_
  generalize Tm.enc t = row at *
  generalize Tm.vf _ t 0 true = e2 at *
  repeat' (first | refine uU ?_ | refine uV fun z hz => ?_ | refine uW fun zs hzs => ?_ | refine dq (fun hq => ?_) fun hq => ?_)
  (refine fin_ret ?_; cbv)
theorem call78 (hR : Has R G c78) (k : Int) : (Lim R G).call 78 [.pl (.int .i64 (k))] [] = some (.pl (.bool (decide (Fm.quant k))), []) := by
  refine call_of (hR.at 78 (by kernel_rfl) tab78) (by rfl) ?_
  repeat' (first | refine uU ?_ | refine uV fun z hz => ?_ | refine uW fun zs hzs => ?_ | refine dq (fun hq => ?_) fun hq => ?_)
  all_goals first
    | (refine fin_ret ?_; rw [decide_eq_true (show Fm.quant k by unfold Fm.quant; omega)]; cbv)
    | (refine fin_ret ?_; rw [decide_eq_false (show ¬ Fm.quant k by unfold Fm.quant; omega)]; cbv)
theorem call59 (hR : Has R G c59) (t : Tm) (b : Int) (hs : t.size < 2 ^ 31) : (Lim R G).call 59 [.st 5 t.enc, .pl (.int .i64 (b))] [] = some (.st 5 t.enc, []) := by
  have hc := call79 (hR.sub (by kernel_rfl)) t hs
  refine call_of (hR.at 59 (by kernel_rfl) tab59) (by rfl) ?_
  generalize Tm.enc t = row at *
  repeat' (first | refine uU ?_ | refine uV fun z hz => ?_ | refine uW fun zs hzs => ?_ | refine dq (fun hq => ?_) fun hq => ?_)
  (refine fin_ret ?_; cbv)
theorem call86 (hR : Has R G c86) (t : Tm) (b fr d : Int) (hlow : t.low (2 ^ 40)) (hs : t.size < 2 ^ 31) (hb : 0 ≤ b ∧ b ≤ 2 ^ 40) (hf : 0 ≤ fr ∧ fr ≤ 2 ^ 40) (hd : -2 ^ 40 < d ∧ d < 2 ^ 40) :
    (Lim R G).call 86 [.st 5 t.enc, .pl (.int .i64 (b)), .ptr 0 0, .ptr 1 0] [.box 1 (.pl (.int .i64 (fr))), .box 1 (.pl (.int .i64 (d)))] = some (.st 5 (t.lift (fr + b) d).enc, [.box 1 (.pl (.int .i64 (fr))), .box 1 (.pl (.int .i64 (d)))]) := by
  have hc := call96 (hR.sub (by kernel_rfl)) t (fr + b) d hlow hs hd
  refine call_of (hR.at 86 (by kernel_rfl) tab86) (by rfl) ?_
  generalize Tm.enc t = row at *
  generalize Tm.enc (t.lift (fr + b) d) = ro at *
  repeat' (first | refine uU ?_ | refine uV fun z hz => ?_ | refine uW fun zs hzs => ?_ | refine dq (fun hq => ?_) fun hq => ?_)
  rw [← hz] at hc
  repeat' (first | refine uU ?_ | refine uV fun z hz => ?_ | refine uW fun zs hzs => ?_ | refine dq (fun hq => ?_) fun hq => ?_)
  (refine fin_ret ?_; cbv)
theorem call58O (hR : Has R G c58) {kc : Nat}  {F : Tm → Int → Tm} (hof : ∀ t b, (t.size < 2 ^ 31) → 0 ≤ b ∧ b ≤ 2 ^ 40 → (Lim R G).call kc [.st 5 (Tm.enc t), .pl (.int .i64 (b))] [] = some (.st 5 (F t b).enc, [])) :
    ∀ (f : Fm) (b : Int), f.size < 2 ^ 31 ∧ (0 ≤ b ∧ b + f.size < 2 ^ 40) →
    (Lim R G).call 58 [.st 5 f.enc, .pl (.int .i64 (b)), .fn kc []] [] = some (.st 5 (Fm.reb F f b).enc, []) := by
  refine Fm.ind fun k t ts as ih b hh => ?_
  simp only [Fm.size, Fm.low] at hh
  have hcT := call77 (hR.sub (by kernel_rfl)) t (by omega)
  have hcQ := call78 (hR.sub (by kernel_rfl)) k
  generalize hQ : decide (Fm.quant k) = qb at hcQ
  refine call_of (hR.at 58 (by kernel_rfl) tab58) (by rfl) ?_
  simp only [Fm.reb, Fm.enc]
  rw [Ty.enc_eq] at hcT
  have hl := Fm.encs_len as
  have hl2 := Fm.sizes_len as
  generalize hr : Fm.encs as = rs at hl ⊢
  have hl' := Tm.encs_len ts
  have hl2' := Tm.sizes_len ts
  generalize hr' : Tm.encs ts = rs' at hl' ⊢
  generalize Ty.encs t.args = rt at *
  generalize t.kind = tk at *
  have hb2 : ∃ b2, b2 = b + Fm.bnd k ∧ (Fm.quant k → b2 = b + 1) ∧ (¬ Fm.quant k → b2 = b) := ⟨_, rfl, fun h => by simp [Fm.bnd, h], fun h => by simp [Fm.bnd, h]⟩
  obtain ⟨b2, hb2, hb3, hb4⟩ := hb2
  rw [← hb2]
  generalize hoas : Fm.encs (Fm.rebs F as b2) = ro
  generalize hots : Tm.encs (ts.map (F · b)) = ro'
  repeat' (first | refine uU ?_ | refine uV fun z hz => ?_ | refine uW fun zs hzs => ?_ | refine dq (fun hq => ?_) fun hq => ?_)
  refine wploop (σ := Int × List (List PV)) (fun x => [(21, .pl (.int .i64 x.1))]) (fun x => [(1049, .buf 5 x.2 0)]) (fun x => 0 ≤ x.1 ∧ x.1 ≤ ts.length ∧ x.2.length = x.1 ∧ x.2 ++ (fun l => Tm.encs (l.map (F · b))) (ts.drop x.1.toNat) = (fun l => Tm.encs (l.map (F · b))) ts) (fun x => ts.length - x.1.toNat) (0, []) (by cbv) ⟨by omega, by omega, rfl, by simp⟩ (by cbv) ?_
  rintro ⟨j, n⟩ ⟨hj1, hj2, hj3, hj4⟩
  dsimp only at hj1 hj2 hj3 hj4
  refine wp_at (by cbv) ?_
  by_cases hj : j < ts.length
  · obtain ⟨a, ha, hd, he⟩ := Tm.at_ (as := ts) (n := j) (by omega)
    rw [hr'] at he
    rw [hd] at hj4
    simp only [List.map, Tm.encs] at hj4
    have hc := hof a b (by have := Tm.size_mem ha; omega) (by omega)
    generalize Tm.enc a = row at hc he
    generalize Tm.enc (F a b) = row' at hc hj4
    repeat' (first | refine uU ?_ | refine uV fun z hz => ?_ | refine uW fun zs hzs => ?_ | refine dq (fun hq => ?_) fun hq => ?_)
    exact again_normal (z, zs) ⟨by dsimp only; omega, by dsimp only; omega, by dsimp only; rw [hzs]; simp; omega, by dsimp only; rw [hzs, hz, List.append_assoc]; exact hj4⟩ (by dsimp only; omega) (by cbv)
  · rw [drop_all hj1 (by omega)] at hj4
    simp only [List.map, Tm.encs, List.append_nil] at hj4
    repeat' (first | refine uU ?_ | refine uV fun z hz => ?_ | refine uW fun zs hzs => ?_ | refine dq (fun hq => ?_) fun hq => ?_)
    rw [hots] at hj4
    subst hj4
    clear hj1 hj2 hj3 hj
    cases qb with
    | true =>
      have hb5 := hb3 (of_decide_eq_true hQ)
      repeat' (first | refine uU ?_ | refine uV fun z hz => ?_ | refine uW fun zs hzs => ?_ | refine dq (fun hq => ?_) fun hq => ?_)
      rename_i z1 hz1
      obtain rfl : b2 = z1 := by omega
      refine wploop (σ := Int × List (List PV)) (fun x => [(43, .pl (.int .i64 x.1))]) (fun x => [(1050, .buf 5 x.2 0)]) (fun x => 0 ≤ x.1 ∧ x.1 ≤ as.length ∧ x.2.length = x.1 ∧ x.2 ++ (fun l => Fm.encs (Fm.rebs F l b2)) (as.drop x.1.toNat) = (fun l => Fm.encs (Fm.rebs F l b2)) as) (fun x => as.length - x.1.toNat) (0, []) (by cbv) ⟨by omega, by omega, rfl, by simp⟩ (by cbv) ?_
      rintro ⟨j, n⟩ ⟨hj1, hj2, hj3, hj4⟩
      dsimp only at hj1 hj2 hj3 hj4
      refine wp_at (by cbv) ?_
      by_cases hj : j < as.length
      · obtain ⟨a, ha, hd, he⟩ := Fm.at_ (as := as) (n := j) (by omega)
        rw [hr] at he
        rw [hd] at hj4
        simp only [Fm.rebs, Fm.encs] at hj4
        have hc := ih a ha b2 (by have := Fm.size_mem ha; omega)
        generalize Fm.enc a = row at hc he
        generalize Fm.enc (Fm.reb F a b2) = row' at hc hj4
        repeat' (first | refine uU ?_ | refine uV fun z hz => ?_ | refine uW fun zs hzs => ?_ | refine dq (fun hq => ?_) fun hq => ?_)
        exact again_normal (z, zs) ⟨by dsimp only; omega, by dsimp only; omega, by dsimp only; rw [hzs]; simp; omega, by dsimp only; rw [hzs, hz, List.append_assoc]; exact hj4⟩ (by dsimp only; omega) (by cbv)
      · rw [drop_all hj1 (by omega)] at hj4
        simp only [Fm.rebs, Fm.encs, List.append_nil] at hj4
        repeat' (first | refine uU ?_ | refine uV fun z hz => ?_ | refine uW fun zs hzs => ?_ | refine dq (fun hq => ?_) fun hq => ?_)
        rw [hoas] at hj4
        (refine fin_ret ?_; rw [← hj4]; cbv)
    | false =>
      have hb5 := hb4 (of_decide_eq_false hQ)
      subst hb5
      repeat' (first | refine uU ?_ | refine uV fun z hz => ?_ | refine uW fun zs hzs => ?_ | refine dq (fun hq => ?_) fun hq => ?_)
      refine wploop (σ := Int × List (List PV)) (fun x => [(43, .pl (.int .i64 x.1))]) (fun x => [(1050, .buf 5 x.2 0)]) (fun x => 0 ≤ x.1 ∧ x.1 ≤ as.length ∧ x.2.length = x.1 ∧ x.2 ++ (fun l => Fm.encs (Fm.rebs F l b2)) (as.drop x.1.toNat) = (fun l => Fm.encs (Fm.rebs F l b2)) as) (fun x => as.length - x.1.toNat) (0, []) (by cbv) ⟨by omega, by omega, rfl, by simp⟩ (by cbv) ?_
      rintro ⟨j, n⟩ ⟨hj1, hj2, hj3, hj4⟩
      dsimp only at hj1 hj2 hj3 hj4
      refine wp_at (by cbv) ?_
      by_cases hj : j < as.length
      · obtain ⟨a, ha, hd, he⟩ := Fm.at_ (as := as) (n := j) (by omega)
        rw [hr] at he
        rw [hd] at hj4
        simp only [Fm.rebs, Fm.encs] at hj4
        have hc := ih a ha b2 (by have := Fm.size_mem ha; omega)
        generalize Fm.enc a = row at hc he
        generalize Fm.enc (Fm.reb F a b2) = row' at hc hj4
        repeat' (first | refine uU ?_ | refine uV fun z hz => ?_ | refine uW fun zs hzs => ?_ | refine dq (fun hq => ?_) fun hq => ?_)
        exact again_normal (z, zs) ⟨by dsimp only; omega, by dsimp only; omega, by dsimp only; rw [hzs]; simp; omega, by dsimp only; rw [hzs, hz, List.append_assoc]; exact hj4⟩ (by dsimp only; omega) (by cbv)
      · rw [drop_all hj1 (by omega)] at hj4
        simp only [Fm.rebs, Fm.encs, List.append_nil] at hj4
        repeat' (first | refine uU ?_ | refine uV fun z hz => ?_ | refine uW fun zs hzs => ?_ | refine dq (fun hq => ?_) fun hq => ?_)
        rw [hoas] at hj4
        (refine fin_ret ?_; rw [← hj4]; cbv)
theorem call58A (hR : Has R G c58) {kc : Nat} {p2 p3 : PV} {F : Tm → Int → Tm} (hof : ∀ t b, (t.low (2 ^ 40) ∧ t.size < 2 ^ 31) → 0 ≤ b ∧ b ≤ 2 ^ 40 → (Lim R G).call kc [.st 5 (Tm.enc t), .pl (.int .i64 (b)), .ptr 0 0, .ptr 1 0] [.box 1 (.pl p2), .box 1 (.pl p3)] = some (.st 5 (F t b).enc, [.box 1 (.pl p2), .box 1 (.pl p3)])) :
    ∀ (f : Fm) (b : Int), f.low (2 ^ 40) ∧ f.size < 2 ^ 31 ∧ (0 ≤ b ∧ b + f.size < 2 ^ 40) →
    (Lim R G).call 58 [.st 5 f.enc, .pl (.int .i64 (b)), .fn kc [.ptr 0 0, .ptr 1 0]] [.box 1 (.pl p2), .box 1 (.pl p3)] = some (.st 5 (Fm.reb F f b).enc, [.box 1 (.pl p2), .box 1 (.pl p3)]) := by
  refine Fm.ind fun k t ts as ih b hh => ?_
  simp only [Fm.size, Fm.low] at hh
  have hcT := call77 (hR.sub (by kernel_rfl)) t (by omega)
  have hcQ := call78 (hR.sub (by kernel_rfl)) k
  generalize hQ : decide (Fm.quant k) = qb at hcQ
  refine call_of (hR.at 58 (by kernel_rfl) tab58) (by rfl) ?_
  simp only [Fm.reb, Fm.enc]
  rw [Ty.enc_eq] at hcT
  have hl := Fm.encs_len as
  have hl2 := Fm.sizes_len as
  generalize hr : Fm.encs as = rs at hl ⊢
  have hl' := Tm.encs_len ts
  have hl2' := Tm.sizes_len ts
  generalize hr' : Tm.encs ts = rs' at hl' ⊢
  generalize Ty.encs t.args = rt at *
  generalize t.kind = tk at *
  have hb2 : ∃ b2, b2 = b + Fm.bnd k ∧ (Fm.quant k → b2 = b + 1) ∧ (¬ Fm.quant k → b2 = b) := ⟨_, rfl, fun h => by simp [Fm.bnd, h], fun h => by simp [Fm.bnd, h]⟩
  obtain ⟨b2, hb2, hb3, hb4⟩ := hb2
  rw [← hb2]
  generalize hoas : Fm.encs (Fm.rebs F as b2) = ro
  generalize hots : Tm.encs (ts.map (F · b)) = ro'
  repeat' (first | refine uU ?_ | refine uV fun z hz => ?_ | refine uW fun zs hzs => ?_ | refine dq (fun hq => ?_) fun hq => ?_)
  refine wploop (σ := Int × List (List PV)) (fun x => [(21, .pl (.int .i64 x.1))]) (fun x => [(1049, .buf 5 x.2 0)]) (fun x => 0 ≤ x.1 ∧ x.1 ≤ ts.length ∧ x.2.length = x.1 ∧ x.2 ++ (fun l => Tm.encs (l.map (F · b))) (ts.drop x.1.toNat) = (fun l => Tm.encs (l.map (F · b))) ts) (fun x => ts.length - x.1.toNat) (0, []) (by cbv) ⟨by omega, by omega, rfl, by simp⟩ (by cbv) ?_
  rintro ⟨j, n⟩ ⟨hj1, hj2, hj3, hj4⟩
  dsimp only at hj1 hj2 hj3 hj4
  refine wp_at (by cbv) ?_
  by_cases hj : j < ts.length
  · obtain ⟨a, ha, hd, he⟩ := Tm.at_ (as := ts) (n := j) (by omega)
    rw [hr'] at he
    rw [hd] at hj4
    simp only [List.map, Tm.encs] at hj4
    have hc := hof a b ⟨Tm.lows_mem hh.1.1 ha, by have := Tm.size_mem ha; omega⟩ (by omega)
    generalize Tm.enc a = row at hc he
    generalize Tm.enc (F a b) = row' at hc hj4
    repeat' (first | refine uU ?_ | refine uV fun z hz => ?_ | refine uW fun zs hzs => ?_ | refine dq (fun hq => ?_) fun hq => ?_)
    exact again_normal (z, zs) ⟨by dsimp only; omega, by dsimp only; omega, by dsimp only; rw [hzs]; simp; omega, by dsimp only; rw [hzs, hz, List.append_assoc]; exact hj4⟩ (by dsimp only; omega) (by cbv)
  · rw [drop_all hj1 (by omega)] at hj4
    simp only [List.map, Tm.encs, List.append_nil] at hj4
    repeat' (first | refine uU ?_ | refine uV fun z hz => ?_ | refine uW fun zs hzs => ?_ | refine dq (fun hq => ?_) fun hq => ?_)
    rw [hots] at hj4
    subst hj4
    clear hj1 hj2 hj3 hj
    cases qb with
    | true =>
      have hb5 := hb3 (of_decide_eq_true hQ)
      repeat' (first | refine uU ?_ | refine uV fun z hz => ?_ | refine uW fun zs hzs => ?_ | refine dq (fun hq => ?_) fun hq => ?_)
      rename_i z1 hz1
      obtain rfl : b2 = z1 := by omega
      refine wploop (σ := Int × List (List PV)) (fun x => [(43, .pl (.int .i64 x.1))]) (fun x => [(1050, .buf 5 x.2 0)]) (fun x => 0 ≤ x.1 ∧ x.1 ≤ as.length ∧ x.2.length = x.1 ∧ x.2 ++ (fun l => Fm.encs (Fm.rebs F l b2)) (as.drop x.1.toNat) = (fun l => Fm.encs (Fm.rebs F l b2)) as) (fun x => as.length - x.1.toNat) (0, []) (by cbv) ⟨by omega, by omega, rfl, by simp⟩ (by cbv) ?_
      rintro ⟨j, n⟩ ⟨hj1, hj2, hj3, hj4⟩
      dsimp only at hj1 hj2 hj3 hj4
      refine wp_at (by cbv) ?_
      by_cases hj : j < as.length
      · obtain ⟨a, ha, hd, he⟩ := Fm.at_ (as := as) (n := j) (by omega)
        rw [hr] at he
        rw [hd] at hj4
        simp only [Fm.rebs, Fm.encs] at hj4
        have hc := ih a ha b2 ⟨Fm.lows_mem hh.1.2 ha, by have := Fm.size_mem ha; omega⟩
        generalize Fm.enc a = row at hc he
        generalize Fm.enc (Fm.reb F a b2) = row' at hc hj4
        repeat' (first | refine uU ?_ | refine uV fun z hz => ?_ | refine uW fun zs hzs => ?_ | refine dq (fun hq => ?_) fun hq => ?_)
        exact again_normal (z, zs) ⟨by dsimp only; omega, by dsimp only; omega, by dsimp only; rw [hzs]; simp; omega, by dsimp only; rw [hzs, hz, List.append_assoc]; exact hj4⟩ (by dsimp only; omega) (by cbv)
      · rw [drop_all hj1 (by omega)] at hj4
        simp only [Fm.rebs, Fm.encs, List.append_nil] at hj4
        repeat' (first | refine uU ?_ | refine uV fun z hz => ?_ | refine uW fun zs hzs => ?_ | refine dq (fun hq => ?_) fun hq => ?_)
        rw [hoas] at hj4
        (refine fin_ret ?_; rw [← hj4]; cbv)
    | false =>
      have hb5 := hb4 (of_decide_eq_false hQ)
      subst hb5
      repeat' (first | refine uU ?_ | refine uV fun z hz => ?_ | refine uW fun zs hzs => ?_ | refine dq (fun hq => ?_) fun hq => ?_)
      refine wploop (σ := Int × List (List PV)) (fun x => [(43, .pl (.int .i64 x.1))]) (fun x => [(1050, .buf 5 x.2 0)]) (fun x => 0 ≤ x.1 ∧ x.1 ≤ as.length ∧ x.2.length = x.1 ∧ x.2 ++ (fun l => Fm.encs (Fm.rebs F l b2)) (as.drop x.1.toNat) = (fun l => Fm.encs (Fm.rebs F l b2)) as) (fun x => as.length - x.1.toNat) (0, []) (by cbv) ⟨by omega, by omega, rfl, by simp⟩ (by cbv) ?_
      rintro ⟨j, n⟩ ⟨hj1, hj2, hj3, hj4⟩
      dsimp only at hj1 hj2 hj3 hj4
      refine wp_at (by cbv) ?_
      by_cases hj : j < as.length
      · obtain ⟨a, ha, hd, he⟩ := Fm.at_ (as := as) (n := j) (by omega)
        rw [hr] at he
        rw [hd] at hj4
        simp only [Fm.rebs, Fm.encs] at hj4
        have hc := ih a ha b2 ⟨Fm.lows_mem hh.1.2 ha, by have := Fm.size_mem ha; omega⟩
        generalize Fm.enc a = row at hc he
        generalize Fm.enc (Fm.reb F a b2) = row' at hc hj4
        repeat' (first | refine uU ?_ | refine uV fun z hz => ?_ | refine uW fun zs hzs => ?_ | refine dq (fun hq => ?_) fun hq => ?_)
        exact again_normal (z, zs) ⟨by dsimp only; omega, by dsimp only; omega, by dsimp only; rw [hzs]; simp; omega, by dsimp only; rw [hzs, hz, List.append_assoc]; exact hj4⟩ (by dsimp only; omega) (by cbv)
      · rw [drop_all hj1 (by omega)] at hj4
        simp only [Fm.rebs, Fm.encs, List.append_nil] at hj4
        repeat' (first | refine uU ?_ | refine uV fun z hz => ?_ | refine uW fun zs hzs => ?_ | refine dq (fun hq => ?_) fun hq => ?_)
        rw [hoas] at hj4
        (refine fin_ret ?_; rw [← hj4]; cbv)
end
end Eng

