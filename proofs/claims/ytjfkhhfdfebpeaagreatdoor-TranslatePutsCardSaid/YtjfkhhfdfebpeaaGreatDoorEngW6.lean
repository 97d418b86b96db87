/- tree.Rebuild, Lift, Each, Near: closures. -/
import Derived.Test.YtjfkhhfdfebpeaaGreatDoorEngT
import Derived.Test.YtjfkhhfdfebpeaaGreatDoorEngTab
import Derived.Test.YtjfkhhfdfebpeaaGreatDoorEngW2
import Derived.Test.YtjfkhhfdfebpeaaGreatDoorEngW5
import Derived.Test.YtjfkhhfdfebpeaaGreatDoorEngZ
set_option linter.all false
set_option linter.unusedVariables false
set_option linter.unusedSimpArgs false
set_option maxRecDepth 100000
set_option maxHeartbeats 4000000
namespace Eng
open Go
section
variable {R : RProg} {G : Nat → AV}
theorem call107 (hR : Has R G c107) (i b fr d : Int) (hi : 0 ≤ i ∧ i ≤ 2 ^ 40) (hb : 0 ≤ b ∧ b ≤ 2 ^ 40) (hd : -2 ^ 40 < d ∧ d < 2 ^ 40) :
    (Lim R G).call 107 [.pl (.int .i64 (i)), .pl (.int .i64 (b)), .ptr 0 0, .ptr 1 0] [.box 1 (.pl (.int .i64 (fr))), .box 1 (.pl (.int .i64 (d)))] =
      some (.st 5 (Tm.enc (Tm.var (if fr ≤ i - b then i + d else i))), [.box 1 (.pl (.int .i64 (fr))), .box 1 (.pl (.int .i64 (d)))]) := by
  unfold Tm.var
  refine call_of (hR.at 107 (by kernel_rfl) tab107) (by rfl) ?_
  by_cases hf : fr ≤ i - b
  · rw [if_pos hf]
    have hc := call111 (hR.sub (by kernel_rfl)) (i + d)
    generalize hz1 : i + d = i2 at hc ⊢
    generalize Tm.enc ⟨1, i2, ⟨0, []⟩, []⟩ = row at hc ⊢
    repeat' (first | refine uU ?_ | refine uV fun z hz => ?_ | refine uW fun zs hzs => ?_ | refine dq (fun hq => ?_) fun hq => ?_)
    rw [hz1] at hz
    subst hz
    repeat' (first | refine uU ?_ | refine uV fun z hz => ?_ | refine uW fun zs hzs => ?_ | refine dq (fun hq => ?_) fun hq => ?_)
    (refine fin_ret ?_; cbv)
  · rw [if_neg hf]
    have hc := call111 (hR.sub (by kernel_rfl)) i
    generalize Tm.enc ⟨1, i, ⟨0, []⟩, []⟩ = row at hc ⊢
    repeat' (first | refine uU ?_ | refine uV fun z hz => ?_ | refine uW fun zs hzs => ?_ | refine dq (fun hq => ?_) fun hq => ?_)
    (refine fin_ret ?_; cbv)
theorem call112A (hR : Has R G c112) {kc : Nat} {p2 : PV} {p3 : PV} {F : Int → Int → Tm} (hof : ∀ i b, 0 ≤ i ∧ i ≤ 2 ^ 40 → 0 ≤ b ∧ b ≤ 2 ^ 40 → (Lim R G).call kc [.pl (.int .i64 (i)), .pl (.int .i64 (b)), .ptr 0 0, .ptr 1 0] [.box 1 (.pl p2), .box 1 (.pl p3)] = some (.st 5 (F i b).enc, [.box 1 (.pl p2), .box 1 (.pl p3)])) :
    ∀ (t : Tm) (b : Int), t.low (2 ^ 40) → t.size < 2 ^ 31 → (0 ≤ b ∧ b + t.size < 2 ^ 40) →
    (Lim R G).call 112 [.st 5 t.enc, .pl (.int .i64 (b)), .ptr 0 0, .ptr 1 0] [.box 1 (.fn kc [.ptr 2 0, .ptr 3 0]), .box 1 (.fn 112 [.ptr 0 0, .ptr 1 0]), .box 1 (.pl p2), .box 1 (.pl p3)] =
      some (.st 5 (Tm.reb F t b).enc, [.box 1 (.fn kc [.ptr 2 0, .ptr 3 0]), .box 1 (.fn 112 [.ptr 0 0, .ptr 1 0]), .box 1 (.pl p2), .box 1 (.pl p3)]) := by
  refine Tm.ind fun k i t as ih b hlow hs hbb => ?_
  refine call_of (hR.at 112 (by kernel_rfl) tab112) (by rfl) ?_
  simp only [Tm.size, Tm.low] at hs hlow hbb
  have hcT := call77 (hR.sub (by kernel_rfl)) t (by omega)
  simp only [Tm.reb]
  by_cases hk : k = 1
  · rw [if_pos hk]
    have hc := hof i b (by omega) (by omega)
    generalize Tm.enc (F i b) = row at hc ⊢
    simp only [Tm.enc]
    generalize Tm.encs as = rs
    generalize Ty.encs t.args = rt
    generalize t.kind = tk
    repeat' (first | refine uU ?_ | refine uV fun z hz => ?_ | refine uW fun zs hzs => ?_ | refine dq (fun hq => ?_) fun hq => ?_)
    (refine fin_ret ?_; cbv)
  · rw [if_neg hk]
    obtain ⟨tk, ta⟩ := t
    simp only [Tm.enc, Ty.enc, Ty.kind, Ty.args] at hcT ⊢
    have hl := Tm.encs_len as
    have hl2 := Tm.sizes_len as
    generalize hr : Tm.encs as = rs at hl ⊢
    generalize Ty.encs ta = rt at hcT ⊢
    have hb2 : ∃ b2, b2 = b + Tm.bnd k ∧ (k = 2 → b2 = b + 1) ∧ (k ≠ 2 → b2 = b) := ⟨_, rfl, fun h => by simp [Tm.bnd, h], fun h => by simp [Tm.bnd, h]⟩
    obtain ⟨b2, hb2, hb3, hb4⟩ := hb2
    rw [← hb2]
    generalize ho : Tm.encs (Tm.rebs F as b2) = ro
    by_cases hk2 : k = 2
    · have hb5 := hb3 hk2
      repeat' (first | refine uU ?_ | refine uV fun z hz => ?_ | refine uW fun zs hzs => ?_ | refine dq (fun hq => ?_) fun hq => ?_)
      rename_i z1 hz1
      obtain rfl : b2 = z1 := by omega
      refine wploop (σ := Int × List (List PV)) (fun x => [(34, .pl (.int .i64 x.1))]) (fun x => [(1065, .buf 5 x.2 0)]) (fun x => 0 ≤ x.1 ∧ x.1 ≤ as.length ∧ x.2.length = x.1 ∧ x.2 ++ (fun l => Tm.encs (Tm.rebs F l b2)) (as.drop x.1.toNat) = (fun l => Tm.encs (Tm.rebs F l b2)) as) (fun x => as.length - x.1.toNat) (0, []) (by cbv) ⟨by omega, by omega, rfl, by simp⟩ (by cbv) ?_
      rintro ⟨j, n⟩ ⟨hj1, hj2, hj3, hj4⟩
      dsimp only at hj1 hj2 hj3 hj4
      refine wp_at (by cbv) ?_
      by_cases hj : j < as.length
      · obtain ⟨a, ha, hd, he⟩ := Tm.at_ (as := as) (n := j) (by omega)
        rw [hr] at he
        rw [hd] at hj4
        simp only [Tm.rebs, Tm.encs] at hj4
        have hc := ih a ha b2 (Tm.lows_mem hlow.2.2 ha) (by have := Tm.size_mem ha; omega) (by have := Tm.size_mem ha; omega)
        generalize Tm.enc a = row at hc he
        generalize Tm.enc (Tm.reb F a b2) = row' at hc hj4
        repeat' (first | refine uU ?_ | refine uV fun z hz => ?_ | refine uW fun zs hzs => ?_ | refine dq (fun hq => ?_) fun hq => ?_)
        exact again_normal (z, zs) ⟨by dsimp only; omega, by dsimp only; omega, by dsimp only; rw [hzs]; simp; omega, by dsimp only; rw [hzs, hz, List.append_assoc]; exact hj4⟩ (by dsimp only; omega) (by cbv)
      · rw [drop_all hj1 (by omega)] at hj4
        simp only [Tm.rebs, Tm.encs, List.append_nil] at hj4
        repeat' (first | refine uU ?_ | refine uV fun z hz => ?_ | refine uW fun zs hzs => ?_ | refine dq (fun hq => ?_) fun hq => ?_)
        rw [ho] at hj4
        (refine fin_ret ?_; rw [← hj4]; cbv)
    · have hb5 := hb4 hk2
      subst hb5
      repeat' (first | refine uU ?_ | refine uV fun z hz => ?_ | refine uW fun zs hzs => ?_ | refine dq (fun hq => ?_) fun hq => ?_)
      refine wploop (σ := Int × List (List PV)) (fun x => [(34, .pl (.int .i64 x.1))]) (fun x => [(1065, .buf 5 x.2 0)]) (fun x => 0 ≤ x.1 ∧ x.1 ≤ as.length ∧ x.2.length = x.1 ∧ x.2 ++ (fun l => Tm.encs (Tm.rebs F l b2)) (as.drop x.1.toNat) = (fun l => Tm.encs (Tm.rebs F l b2)) as) (fun x => as.length - x.1.toNat) (0, []) (by cbv) ⟨by omega, by omega, rfl, by simp⟩ (by cbv) ?_
      rintro ⟨j, n⟩ ⟨hj1, hj2, hj3, hj4⟩
      dsimp only at hj1 hj2 hj3 hj4
      refine wp_at (by cbv) ?_
      by_cases hj : j < as.length
      · obtain ⟨a, ha, hd, he⟩ := Tm.at_ (as := as) (n := j) (by omega)
        rw [hr] at he
        rw [hd] at hj4
        simp only [Tm.rebs, Tm.encs] at hj4
        have hc := ih a ha b2 (Tm.lows_mem hlow.2.2 ha) (by have := Tm.size_mem ha; omega) (by have := Tm.size_mem ha; omega)
        generalize Tm.enc a = row at hc he
        generalize Tm.enc (Tm.reb F a b2) = row' at hc hj4
        repeat' (first | refine uU ?_ | refine uV fun z hz => ?_ | refine uW fun zs hzs => ?_ | refine dq (fun hq => ?_) fun hq => ?_)
        exact again_normal (z, zs) ⟨by dsimp only; omega, by dsimp only; omega, by dsimp only; rw [hzs]; simp; omega, by dsimp only; rw [hzs, hz, List.append_assoc]; exact hj4⟩ (by dsimp only; omega) (by cbv)
      · rw [drop_all hj1 (by omega)] at hj4
        simp only [Tm.rebs, Tm.encs, List.append_nil] at hj4
        repeat' (first | refine uU ?_ | refine uV fun z hz => ?_ | refine uW fun zs hzs => ?_ | refine dq (fun hq => ?_) fun hq => ?_)
        rw [ho] at hj4
        (refine fin_ret ?_; rw [← hj4]; cbv)
theorem call108A (hR : Has R G c108) {kc : Nat} {p2 : PV} {p3 : PV} {F : Int → Int → Tm} (hof : ∀ i b, 0 ≤ i ∧ i ≤ 2 ^ 40 → 0 ≤ b ∧ b ≤ 2 ^ 40 → (Lim R G).call kc [.pl (.int .i64 (i)), .pl (.int .i64 (b)), .ptr 0 0, .ptr 1 0] [.box 1 (.pl p2), .box 1 (.pl p3)] = some (.st 5 (F i b).enc, [.box 1 (.pl p2), .box 1 (.pl p3)]))
    (t : Tm) (hlow : t.low (2 ^ 40)) (hs : t.size < 2 ^ 31) :
    (Lim R G).call 108 [.st 5 t.enc, .fn kc [.ptr 0 0, .ptr 1 0]] [.box 1 (.pl p2), .box 1 (.pl p3)] = some (.st 5 (Tm.reb F t 0).enc, [.box 1 (.pl p2), .box 1 (.pl p3)]) := by
  have hc := call112A (hR.sub (by kernel_rfl)) hof t 0 hlow hs (by omega)
  refine call_of (hR.at 108 (by kernel_rfl) tab108) (by rfl) ?_
  generalize Tm.enc t = row at *
  generalize Tm.enc (Tm.reb F t 0) = ro at *
  repeat' (first | refine uU ?_ | refine uV fun z hz => ?_ | refine uW fun zs hzs => ?_ | refine dq (fun hq => ?_) fun hq => ?_)
  (refine fin_ret ?_; cbv)
theorem call96 (hR : Has R G c96) (t : Tm) (fr d : Int) (hlow : t.low (2 ^ 40)) (hs : t.size < 2 ^ 31) (hd : -2 ^ 40 < d ∧ d < 2 ^ 40) :
    (Lim R G).call 96 [.st 5 t.enc, .pl (.int .i64 (fr)), .pl (.int .i64 (d))] [] = some (.st 5 (t.lift fr d).enc, []) := by
  have hc := call108A (hR.sub (by kernel_rfl)) (fun i b hi hb => call107 (hR.sub (by kernel_rfl)) i b fr d hi hb hd) t hlow hs
  refine call_of (hR.at 96 (by kernel_rfl) tab96) (by rfl) ?_
  unfold Tm.lift
  generalize Tm.reb _ t 0 = u at *
  generalize Tm.enc t = row at *
  generalize Tm.enc u = ro at *
  repeat' (first | refine uU ?_ | refine uV fun z hz => ?_ | refine uW fun zs hzs => ?_ | refine dq (fun hq => ?_) fun hq => ?_)
  (refine fin_ret ?_; cbv)
end
end Eng

