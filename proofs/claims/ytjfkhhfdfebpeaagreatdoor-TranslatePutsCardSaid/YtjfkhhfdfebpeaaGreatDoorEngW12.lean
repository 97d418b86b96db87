/- The program's translation of formulas: the whole. -/
import Derived.Test.YtjfkhhfdfebpeaaGreatDoorEngT
import Derived.Test.YtjfkhhfdfebpeaaGreatDoorEngTab
import Derived.Test.YtjfkhhfdfebpeaaGreatDoorEngW11
import Derived.Test.YtjfkhhfdfebpeaaGreatDoorEngZ
set_option linter.all false
set_option linter.unusedVariables false
set_option linter.unusedSimpArgs false
set_option maxRecDepth 100000
set_option maxHeartbeats 4000000
namespace Eng
open Go
section
variable {R : RProg} {G : Nat → AV}
def trO (a : Fm) (room : Int) (n : Nat) : List Obj := [.box 2 (.agg [.own 1 0, .pl (.int .i64 (room))]), .buf 5 (Fm.encs (a.anss n)) 0]
def FmTrOk (R : RProg) (G : Nat → AV) (a : Fm) (room : Int) (f : Fm) : Prop := ∀ (b n : Nat), f.ok = true → f.nu = true → b + f.size < 2 ^ 19 → 1 ≤ n ∧ n < 2 ^ 20 →
  (Lim R G).call 24 [.ptr 0 0, .st 5 f.enc, .pl (.int .i64 ((b : Int)))] (trO a room n) = some (.st 5 (f.Tr (a.ups1 b)).enc, trO a room (max n (b + f.nd)))
theorem call57 (hR : Has R G c57) (a : Fm) (room : Int) (hok : a.ok = true) (hlow : a.low (2 ^ 30)) (hs : a.size < 2 ^ 31) (t : Ty) (c : Fm) (ih : FmTrOk R G a room c) (b n : Nat)
    (h1 : c.ok = true) (h2 : c.nu = true) (h3 : b + c.size + 1 < 2 ^ 19) (hn : 1 ≤ n ∧ n < 2 ^ 20) :
    (Lim R G).call 57 [.ptr 0 0, .st 5 (Fm.enc (.mk 5 t [] [c])), .pl (.int .i64 ((b : Int)))] (trO a room n) = some (.st 5 (Fm.q 4 t (Fm.imp (c.Tr (a.ups1 (b + 1))) (a.ups1 (b + 1)))).enc, trO a room (max n (b + max (c.nd + 1) 2))) := by
  have hnd := Fm.nd_le c
  have hcF := ih (b + 1) n h1 h2 (by omega) hn
  generalize hm1 : max n (b + 1 + c.nd) = m1 at *
  have hcA := call53 (hR.sub (by kernel_rfl)) a room hok hlow hs m1 (b + 1) (by omega) (by omega)
  rw [show max m1 (b + 1 + 1) = max n (b + max (c.nd + 1) 2) by omega] at hcA
  generalize max n (b + max (c.nd + 1) 2) = m2 at *
  simp only [Fm.imp, Fm.two, Fm.q, trO, Fm.enc, Fm.encs, Tm.encs, Ty.kind_mk, Ty.args_mk, Ty.encs_nil] at *
  generalize (c.Tr (a.ups1 (b + 1))).enc = r1 at *
  generalize (a.ups1 (b + 1)).enc = r2 at *
  have hcI := call54 (hR.sub (by kernel_rfl)) r1 r2
  have hcQ := call56 (hR.sub (by kernel_rfl)) 4 t.kind (Ty.encs t.args) [.int .i64 3, .int .i64 0, .sl 2 [], .sl 5 [], .sl 5 [r1, r2]]
  refine call_of (hR.at 57 (by kernel_rfl) tab57) (by rfl) ?_
  generalize Ty.encs t.args = rt at *
  generalize t.kind = tk at *
  generalize c.enc = rc at *
  generalize Fm.encs (a.anss n) = q0 at *
  generalize Fm.encs (a.anss m1) = q1 at *
  generalize Fm.encs (a.anss m2) = q2 at *
  generalize hbi : (b : Int) = bi
  repeat' (first | refine uU ?_ | refine uV fun z hz => ?_ | refine uW fun zs hzs => ?_ | refine dq (fun hq => ?_) fun hq => ?_)
  rw [show ((b + 1 : Nat) : Int) = z by omega] at hcF hcA
  repeat' (first | refine uU ?_ | refine uV fun z hz => ?_ | refine uW fun zs hzs => ?_ | refine dq (fun hq => ?_) fun hq => ?_)
  rename_i z1 hz1
  obtain rfl : z1 = z := by omega
  repeat' (first | refine uU ?_ | refine uV fun z hz => ?_ | refine uW fun zs hzs => ?_ | refine dq (fun hq => ?_) fun hq => ?_)
  (refine fin_ret ?_; cbv)
theorem call24 (hR : Has R G c24) (a : Fm) (room : Int) (hok : a.ok = true) (hlow : a.low (2 ^ 30)) (hs : a.size < 2 ^ 31) : ∀ f, FmTrOk R G a room f := by
  refine Fm.ind fun k t ts as ih b n ho hnu hsz hn => ?_
  have hnd := Fm.nd_le (.mk k t ts as)
  obtain ⟨hk6, hk7, hnus⟩ := Fm.nu_mk hnu
  obtain ⟨_, _, _, hoks⟩ := Fm.ok_mk ho
  simp only [Fm.size] at hsz hnd
  rcases Fm.shape ho with ⟨rfl, rfl, ⟨x, y, rfl⟩, rfl⟩ | ⟨hk, rfl, rfl, c, d, rfl⟩ | ⟨hk, _, rfl, c, rfl⟩
  · simp only [Fm.nd, Fm.Tr]
    have hc1 := call53 (hR.sub (by kernel_rfl)) a room hok hlow hs n b (by omega) (by omega)
    have hc2 := call53 (hR.sub (by kernel_rfl)) a room hok hlow hs (max n (b + 1)) b (by omega) (by omega)
    rw [show max (max n (b + 1)) (b + 1) = max n (b + 1) by omega] at hc2
    generalize max n (b + 1) = m1 at *
    simp only [Fm.imp, Fm.two, trO, Fm.enc, Fm.encs, Tm.encs, Ty.kind_mk, Ty.args_mk, Ty.encs_nil] at *
    generalize (a.ups1 b).enc = r2 at *
    generalize Fm.encs (a.anss n) = q0 at *
    generalize Fm.encs (a.anss m1) = q1 at *
    generalize x.enc = rx at *
    generalize y.enc = ry at *
    have hcI := call54 (hR.sub (by kernel_rfl)) [.int .i64 1, .int .i64 0, .sl 2 [], .sl 5 [rx, ry], .sl 5 []] r2
    have hcJ := call54 (hR.sub (by kernel_rfl)) [.int .i64 3, .int .i64 0, .sl 2 [], .sl 5 [], .sl 5 [[.int .i64 1, .int .i64 0, .sl 2 [], .sl 5 [rx, ry], .sl 5 []], r2]] r2
    refine call_of (hR.at 24 (by kernel_rfl) tab24) (by rfl) ?_
    generalize hbi : (b : Int) = bi at *
    repeat' (first | refine uU ?_ | refine uV fun z hz => ?_ | refine uW fun zs hzs => ?_ | refine dq (fun hq => ?_) fun hq => ?_)
    (refine fin_ret ?_; cbv)
  · obtain ⟨hoc, hod, _⟩ : c.ok = true ∧ d.ok = true ∧ True := by simpa [Fm.oks] using hoks
    obtain ⟨hnc, hnd2, _⟩ : c.nu = true ∧ d.nu = true ∧ True := by simpa [Fm.nus] using hnus
    simp only [Fm.sizes] at hsz
    have b1 := Fm.nd_le c
    have b2 := Fm.nd_le d
    have hc1 := ih c (by simp) b n hoc hnc (by omega) hn
    have hc2 := ih d (by simp) b (max n (b + c.nd)) hod hnd2 (by omega) (by omega)
    simp only [Fm.nd, Fm.Tr]
    rw [show max (max n (b + c.nd)) (b + d.nd) = max n (b + max c.nd d.nd) by omega] at hc2
    generalize max n (b + c.nd) = m1 at *
    generalize max n (b + max c.nd d.nd) = m2 at *
    simp only [Fm.two, trO, Fm.enc, Fm.encs, Tm.encs, Ty.kind_mk, Ty.args_mk, Ty.encs_nil] at *
    generalize (c.Tr (a.ups1 b)).enc = r1 at *
    generalize (d.Tr (a.ups1 b)).enc = r2 at *
    generalize c.enc = rc at *
    generalize d.enc = rd at *
    generalize Fm.encs (a.anss n) = q0 at *
    generalize Fm.encs (a.anss m1) = q1 at *
    generalize Fm.encs (a.anss m2) = q2 at *
    have hcI := call55 (hR.sub (by kernel_rfl)) k [r1, r2]
    refine call_of (hR.at 24 (by kernel_rfl) tab24) (by rfl) ?_
    generalize hbi : (b : Int) = bi at *
    rcases hk with rfl | rfl
    · repeat' (first | refine uU ?_ | refine uV fun z hz => ?_ | refine uW fun zs hzs => ?_ | refine dq (fun hq => ?_) fun hq => ?_)
      (refine fin_ret ?_; cbv)
    · repeat' (first | refine uU ?_ | refine uV fun z hz => ?_ | refine uW fun zs hzs => ?_ | refine dq (fun hq => ?_) fun hq => ?_)
      (refine fin_ret ?_; cbv)
  · obtain ⟨hoc, _⟩ : c.ok = true ∧ True := by simpa [Fm.oks] using hoks
    obtain ⟨hnc, _⟩ : c.nu = true ∧ True := by simpa [Fm.nus] using hnus
    simp only [Fm.sizes] at hsz
    have b1 := Fm.nd_le c
    rcases (show k = 4 ∨ k = 5 by omega) with rfl | rfl
    · have hc1 := ih c (by simp) (b + 1) n hoc hnc (by omega) hn
      simp only [Fm.nd, Fm.Tr]
      rw [if_pos trivial, if_pos trivial]
      rw [show max n (b + 1 + c.nd) = max n (b + (c.nd + 1)) by omega] at hc1
      generalize max n (b + (c.nd + 1)) = m1 at *
      rw [show a.ups1 (b + 1) = (a.ups1 b).up1 from rfl] at hc1
      simp only [Fm.q, trO, Fm.enc, Fm.encs, Tm.encs, Ty.kind_mk, Ty.args_mk, Ty.encs_nil] at *
      generalize (c.Tr (a.ups1 b).up1).enc = r1 at *
      generalize c.enc = rc at *
      generalize Fm.encs (a.anss n) = q0 at *
      generalize Fm.encs (a.anss m1) = q1 at *
      have hcQ := call56 (hR.sub (by kernel_rfl)) 4 t.kind (Ty.encs t.args) r1
      generalize Ty.encs t.args = rt at *
      generalize t.kind = tk at *
      refine call_of (hR.at 24 (by kernel_rfl) tab24) (by rfl) ?_
      generalize hbi : (b : Int) = bi at *
      repeat' (first | refine uU ?_ | refine uV fun z hz => ?_ | refine uW fun zs hzs => ?_ | refine dq (fun hq => ?_) fun hq => ?_)
      rw [show ((b + 1 : Nat) : Int) = z by omega] at hc1
      repeat' (first | refine uU ?_ | refine uV fun z hz => ?_ | refine uW fun zs hzs => ?_ | refine dq (fun hq => ?_) fun hq => ?_)
      (refine fin_ret ?_; cbv)
    · have hc1 := call57 (hR.sub (by kernel_rfl)) a room hok hlow hs t c (ih c (by simp)) b n hoc hnc (by omega) hn
      simp only [Fm.nd, Fm.Tr]
      rw [if_neg (by decide), if_neg (by decide)]
      generalize hm1 : max n (b + max (c.nd + 1) 2) = m1 at *
      have hc2 := call53 (hR.sub (by kernel_rfl)) a room hok hlow hs m1 b (by omega) (by omega)
      rw [show max m1 (b + 1) = m1 by omega] at hc2
      rw [show a.ups1 (b + 1) = (a.ups1 b).up1 from rfl] at hc1
      simp only [Fm.imp, Fm.two, Fm.q, trO, Fm.enc, Fm.encs, Tm.encs, Ty.kind_mk, Ty.args_mk, Ty.encs_nil] at *
      generalize (c.Tr (a.ups1 b).up1).enc = r1 at *
      generalize (a.ups1 b).up1.enc = r2 at *
      generalize (a.ups1 b).enc = r3 at *
      generalize c.enc = rc at *
      generalize Fm.encs (a.anss n) = q0 at *
      generalize Fm.encs (a.anss m1) = q1 at *
      have hcI := call54 (hR.sub (by kernel_rfl)) [.int .i64 4, .int .i64 t.kind, .sl 2 (Ty.encs t.args), .sl 5 [], .sl 5 [[.int .i64 3, .int .i64 0, .sl 2 [], .sl 5 [], .sl 5 [r1, r2]]]] r3
      generalize Ty.encs t.args = rt at *
      generalize t.kind = tk at *
      refine call_of (hR.at 24 (by kernel_rfl) tab24) (by rfl) ?_
      generalize hbi : (b : Int) = bi at *
      repeat' (first | refine uU ?_ | refine uV fun z hz => ?_ | refine uW fun zs hzs => ?_ | refine dq (fun hq => ?_) fun hq => ?_)
      (refine fin_ret ?_; cbv)
end
end Eng

