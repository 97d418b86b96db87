/- Making: types, contexts. -/
import Derived.Test.YtjfkhhfdfebpeaaGreatDoorEngT
import Derived.Test.YtjfkhhfdfebpeaaGreatDoorEngTab
import Derived.Test.YtjfkhhfdfebpeaaGreatDoorEngW18
import Derived.Test.YtjfkhhfdfebpeaaGreatDoorEngW2
import Derived.Test.YtjfkhhfdfebpeaaGreatDoorEngZ
set_option linter.all false
set_option linter.unusedVariables false
set_option linter.unusedSimpArgs false
set_option maxRecDepth 100000
set_option maxHeartbeats 4000000
namespace Eng
open Go
section
variable {R : RProg} {G : Nat → AV}
theorem call17 (hR : Has R G c17) (l : List Int) (hl : l.length ≤ 500) : ∀ (n : Nat) (d : Int) (a : Int), d = n → n < 20 → 0 ≤ a ∧ a ≤ 500 →
    ∃ (t : Ty) (a' : Int), (Lim R G).call 17 [.ptr 0 0, .pl (.int .i64 (d))] [dk l a] = some (.st 2 t.enc, [dk l a']) ∧ (0 ≤ a' ∧ a' ≤ 500) ∧ t.Sm (2 ^ (n + 1) - 1) := by
  intro n
  induction n with
  | zero =>
    intro d a hd hn ha
    have h1 := call20 (hR.sub (by kernel_rfl))
    have h2 := call36 (hR.sub (by kernel_rfl))
    have h3 := call37 (hR.sub (by kernel_rfl))
    have s16 := call16 (hR.sub (by kernel_rfl)) l hl
    rw [show Ty.mk 1 [] = Ty.nat from rfl] at h1
    rw [show Ty.mk 2 [] = Ty.list from rfl] at h2
    rw [show Ty.mk 5 [] = Ty.unit from rfl] at h3
    refine ex2 (call_ofE (hR.at 17 (by kernel_rfl) tab17) (by rfl) ?_)
    unfold dk at *
    generalize (l.map fun n => [PV.int .i64 n]) = rs at *
    generalize Ty.enc = ye at *
    repeat' (first | refine uU ?_ | refine uV fun z hz => ?_ | refine uW fun zs hzs => ?_ | refine dq (fun hq => ?_) fun hq => ?_ | (refine dE (by cbv; fail_if_success intros) (by first | exact s16 _ _ (by omega) (by omega)) ?_; intro x a1 hx; refine ⟨_, _, _, by cbv, ?_⟩))
    all_goals (
      refine finP_ret (by cbv) ?_
      refine ⟨_, _, rfl, by omega, ?_⟩
      first | exact Ty.Sm.nat (by decide) | exact Ty.Sm.list (by decide) | exact Ty.Sm.unit (by decide))
  | succ n ih =>
    intro d a hd hn ha
    have hp : 2 ^ (n + 1) < 2 ^ 21 := Nat.pow_lt_pow_right (by omega) (by omega)
    have hp1 : 1 ≤ 2 ^ (n + 1) := Nat.one_le_two_pow
    have hp2 : 2 ^ (n + 1 + 1) = 2 * 2 ^ (n + 1) := by rw [Nat.pow_succ]; omega
    have h1 := call20 (hR.sub (by kernel_rfl))
    have h2 := call36 (hR.sub (by kernel_rfl))
    have h3 := call37 (hR.sub (by kernel_rfl))
    have s16 := call16 (hR.sub (by kernel_rfl)) l hl
    have sI : ∀ d a : Int, d = (n : Int) → 0 ≤ a ∧ a ≤ 500 → _ := fun d a h1 h2 => ih d a h1 (by omega) h2
    have sP : ∀ t u : Ty, t.Sm (2 ^ (n + 1) - 1) → u.Sm (2 ^ (n + 1) - 1) → _ := fun t u h1 h2 => call38 (hR.sub (by kernel_rfl)) t u (by have := h1.sz; omega) (by have := h2.sz; omega)
    have sF : ∀ t u : Ty, t.Sm (2 ^ (n + 1) - 1) → u.Sm (2 ^ (n + 1) - 1) → _ := fun t u h1 h2 => call39 (hR.sub (by kernel_rfl)) t u (by have := h1.sz; omega) (by have := h2.sz; omega)
    rw [show Ty.mk 1 [] = Ty.nat from rfl] at h1
    rw [show Ty.mk 2 [] = Ty.list from rfl] at h2
    rw [show Ty.mk 5 [] = Ty.unit from rfl] at h3
    clear ih
    refine ex2 (call_ofE (hR.at 17 (by kernel_rfl) tab17) (by rfl) ?_)
    unfold dk at *
    generalize (l.map fun n => [PV.int .i64 n]) = rs at *
    generalize Ty.enc = ye at *
    repeat' (first | refine uU ?_ | refine uV fun z hz => ?_ | refine uW fun zs hzs => ?_ | refine dq (fun hq => ?_) fun hq => ?_ | refine dc ?_ (h2 := by first | exact sP _ _ (And.right (by assumption)) (And.right (by assumption)) | exact sF _ _ (And.right (by assumption)) (And.right (by assumption))) | (refine dE (by cbv; fail_if_success intros) (by first | exact s16 _ _ (by omega) (by omega) | exact sI _ _ (by omega) (by omega)) ?_; intro x a1 hx; refine ⟨_, _, _, by cbv, ?_⟩))
    all_goals (
      refine finP_ret (by cbv) ?_
      refine ⟨_, _, rfl, by omega, ?_⟩
      first
        | exact Ty.Sm.nat (by omega)
        | exact Ty.Sm.list (by omega)
        | exact Ty.Sm.unit (by omega)
        | exact Ty.Sm.mono (Ty.Sm.pair (n := 2 ^ (n + 1) - 1) (m := 2 ^ (n + 1) - 1) (And.right (by assumption)) (And.right (by assumption))) (by omega)
        | exact Ty.Sm.mono (Ty.Sm.fn (n := 2 ^ (n + 1) - 1) (m := 2 ^ (n + 1) - 1) (And.right (by assumption)) (And.right (by assumption))) (by omega))
def CtxMade (n m : Nat) (r : List Ty) : Prop := r.length ≤ m ∧ ∀ t ∈ r, t.Sm n
theorem call6 (hR : Has R G c6) (l : List Int) (hl : l.length ≤ 500) (a : Int) (ha : 0 ≤ a ∧ a ≤ 500) :
    ∃ (r : List Ty) (a' : Int), (Lim R G).call 6 [.ptr 0 0] [dk l a] = some (.pl (.sl 2 (Ty.encs r.reverse)), [dk l a']) ∧ (0 ≤ a' ∧ a' ≤ 500) ∧ CtxMade 3 3 r := by
  have s16 := call16 (hR.sub (by kernel_rfl)) l hl
  have s17 := fun a h => call17 (hR.sub (by kernel_rfl)) l hl 1 1 a rfl (by omega) h
  refine ex2 (call_ofE (hR.at 6 (by kernel_rfl) tab6) (by rfl) ?_)
  unfold dk at *
  generalize (l.map fun n => [PV.int .i64 n]) = rs at *
  repeat' (first | refine uU ?_ | refine uV fun z hz => ?_ | refine uW fun zs hzs => ?_ | refine dq (fun hq => ?_) fun hq => ?_ | (refine dE (by cbv; fail_if_success intros) (by first | exact s16 _ _ (by omega) (by omega)) ?_; intro x a1 hx; refine ⟨_, _, _, by cbv, ?_⟩))
  refine wploop (σ := List Ty × Int × Int × List (List PV)) (fun x => [(4, .pl (.int .i64 (x.2.2.1)))]) (fun v => [(0, .box 2 (.st 2 [.sl 1 rs, .int .i64 v.2.1])), (1016, .buf 2 v.2.2.2 0)]) (fun v => (v.1.length + v.2.2.1 ≤ 3 ∧ 0 ≤ v.2.2.1) ∧ (0 ≤ v.2.1 ∧ v.2.1 ≤ 500) ∧ (∀ t ∈ v.1, t.Sm 3) ∧ v.2.2.2 = Ty.encs v.1.reverse) (fun v => v.2.2.1.toNat) ([], a1, x, []) (by cbv) ⟨by dsimp only [List.length_nil]; omega, by dsimp only; omega, by simp, rfl⟩ (by cbv) ?_
  rintro ⟨r, a2, k, gs⟩ ⟨h1, h2, h3, h4⟩
  dsimp only at h1 h2 h3 h4
  refine wp_at (by cbv) ?_
  have hl2 : gs.length = r.length := by simp [h4, Ty.encs_len]
  have hnew : ∀ t : Ty, gs ++ [t.enc] = Ty.encs (t :: r).reverse := fun t => by simp [Ty.encs_eq, h4]
  have hfin : ∃ (r' : List Ty) (a' : Int), ((.pl (.sl 2 (gs)) : AV), [Obj.box 2 (.st 2 [.sl 1 rs, .int .i64 a2])]) = ((.pl (.sl 2 (Ty.encs r'.reverse)) : AV), [Obj.box 2 (.st 2 [.sl 1 rs, .int .i64 a'])]) ∧ (0 ≤ a' ∧ a' ≤ 500) ∧ CtxMade 3 3 r' := ⟨r, a2, by rw [h4], h2, by omega, h3⟩
  clear h4
  generalize hye : Ty.enc = ye at *
  repeat' (first | refine uU ?_ | refine uV fun z hz => ?_ | refine uW fun zs hzs => ?_ | refine dq (fun hq => ?_) fun hq => ?_ | (refine dE (by cbv; fail_if_success intros) (by first | exact s17 _ (by omega)) ?_; intro x a1 hx; refine ⟨_, _, _, by cbv, ?_⟩))
  · exact again_normal (x :: r, a1, z, zs) ⟨by simp only [List.length_cons]; omega, by dsimp only; omega, by simpa using ⟨hx.2, h3⟩, by dsimp only; rw [hzs, hnew]⟩ (by dsimp only; omega) (by cbv)
  · exact finP_ret (by cbv) hfin
end
end Eng

