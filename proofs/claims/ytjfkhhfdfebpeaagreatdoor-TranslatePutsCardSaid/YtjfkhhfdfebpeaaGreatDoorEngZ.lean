/- The engine's evaluator in the form that the texts reckon with: Bool by match, numbers compared by ==. Printed out of EngA by wip/tools/mkq.py; equal to it. -/
import Derived.Test.YtjfkhhfdfebpeaaGreatDoorEngC
import Derived.KernelRfl
set_option linter.all false
set_option linter.unusedVariables false
set_option linter.unusedSimpArgs false
namespace Eng
class NB where
  beq : Nat → Nat → Bool
  ble : Nat → Nat → Bool
  blt : Nat → Nat → Bool
@[reducible] def NB.std : NB := ⟨Nat.beq, Nat.ble, Nat.blt⟩
@[reducible] def NB.fast : NB := ⟨fun a b => a == b, fun a b => decide (a ≤ b), fun a b => decide (a < b)⟩
theorem NB.same : NB.fast = NB.std := by
  have h1 : (fun a b : Nat => a == b) = Nat.beq := by
    funext a b
    cases h : Nat.beq a b with
    | true => simp [Nat.eq_of_beq_eq_true h]
    | false => simp [Nat.ne_of_beq_eq_false h]
  have h2 : (fun a b : Nat => decide (a ≤ b)) = Nat.ble := by
    funext a b
    cases h : Nat.ble a b with
    | true => simpa using h
    | false => simp; exact Nat.lt_of_not_le (fun q => by have := Nat.ble_eq_true_of_le q; rw [h] at this; exact Bool.noConfusion this)
  have h3 : (fun a b : Nat => decide (a < b)) = Nat.blt := by
    funext a b
    exact congrFun (congrFun h2 (a + 1)) b
  unfold NB.fast NB.std
  rw [h1, h2, h3]
namespace QP
open Go
section
variable [NB]
def lkE : List (Nat × AV) → Nat → AV
  | [], _ => .undef
  | (k, v) :: l, t => (match NB.beq k t with | true => (v) | false => (lkE l t))
def lkH : Heap → Nat → Option Obj
  | [], _ => none
  | (k, o) :: l, r => (match NB.beq k r with | true => (some o) | false => (lkH l r))
def idxOf : List Nat → Nat → Nat → Option Nat
  | [], _, _ => none
  | k :: l, r, i => (match NB.beq k r with | true => (some i) | false => (idxOf l r (i + 1)))
def memN : List Nat → Nat → Bool
  | [], _ => false
  | k :: l, r => (match NB.beq k r with | true => (true) | false => (memN l r))
def nthN : List Nat → Nat → Option Nat
  | [], _ => none
  | k :: _, 0 => some k
  | _ :: l, i + 1 => nthN l i
def distinctN : List Nat → Bool
  | [] => true
  | r :: l => !memN l r && distinctN l
mutual
def ptrs : AV → List Nat
  | .own r _ => [r]
  | .ptr r _ => [r]
  | .mp r => [r]
  | .fn _ cs => ptrsL cs
  | .agg cs => ptrsL cs
  | .tup cs => ptrsL cs
  | _ => []
def ptrsL : List AV → List Nat
  | [] => []
  | v :: vs => ptrs v ++ ptrsL vs
end
mutual
def ren (m : Rn) : AV → AV
  | .own r v => match m.o r v with
    | some (r', v') => .own r' v'
    | none => .pl .top
  | .ptr r off => match m.p r with
    | some r' => .ptr r' off
    | none => .pl .top
  | .mp r => match m.p r with
    | some r' => .mp r'
    | none => .pl .top
  | .fn f cs => .fn f (renL m cs)
  | .agg cs => .agg (renL m cs)
  | .tup cs => .tup (renL m cs)
  | .op _ _ => .pl .top
  | .undef => .undef
  | .pl p => .pl p
  | .st n cs => .st n cs
  | .ex sz rows => .ex sz rows
  | .rp n cs => .rp n cs
  | .nilp => .nilp
  | .nilf => .nilf
def renL (m : Rn) : List AV → List AV
  | [] => []
  | v :: vs => ren m v :: renL m vs
end
def curV (hp : Heap) (r : Nat) : Option Nat :=
  match lkH hp r with
  | some (.buf _ _ v) => some v
  | some (.bufo _ _ v) => some v
  | _ => none
def rowsOf (hp : Heap) : AV → Option (Nat × List (List PV))
  | .pl (.sl sz rows) => some (sz, rows)
  | .ex sz rows => some (sz, rows)
  | .own r v => match lkH hp r with
    | some (.buf sz rows v') => (match NB.beq v' v with | true => (some (sz, rows)) | false => (none))
    | _ => none
  | _ => none
def plains : List AV → Option (List PV)
  | [] => some []
  | .pl p :: l => match plains l with
    | some ps => some (p :: ps)
    | none => none
  | _ :: _ => none
def pack (cs : List AV) : AV :=
  match plains cs with
  | some ps => .st cs.length ps
  | none => .agg cs
def frz1 (hp : Heap) : AV → AV
  | .own r v => match rowsOf hp (.own r v) with
    | some (sz, rows) => .pl (.sl sz rows)
    | none => .undef
  | .ex sz rows => .pl (.sl sz rows)
  | v => v
def frzL (hp : Heap) : List AV → List AV
  | [] => []
  | v :: vs => frz1 hp v :: frzL hp vs
def frz (hp : Heap) : AV → AV
  | .agg cs => pack (frzL hp cs)
  | v => frz1 hp v
def frzT (hp : Heap) : List AV → List AV
  | [] => []
  | v :: vs => frz hp v :: frzT hp vs
def rdF : AV → List Nat
  | .own r _ => [r]
  | .agg cs => ptrsL cs
  | _ => []
def rdFs : List AV → List Nat
  | [] => []
  | v :: vs => rdF v ++ rdFs vs
def ptrsO : Obj → List Nat
  | .box _ v => ptrs v
  | .buf .. => []
  | .bufo .. => []
  | .set _ => []
def reach (hp : Heap) : Nat → List Nat → List Nat → Option (List Nat)
  | 0, _, _ => none
  | _ + 1, [], seen => some seen
  | n + 1, r :: todo, seen =>
    (match memN seen r with | true => (reach hp n todo seen) | false => (match lkH hp r with
                                                                                                                              | some o => reach hp n (todo ++ ptrsO o) (seen ++ [r])
                                                                                                                              | none => none))
def renO (m : Rn) (nv : Nat) : Obj → Obj
  | .box n v => .box n (ren m v)
  | .buf sz rows _ => .buf sz rows nv
  | .bufo sz rows _ => .bufo sz rows nv
  | .set ks => .set ks
def getOs (hp : Heap) (m : Rn) : List Nat → Option (List Obj)
  | [] => some []
  | r :: l => match lkH hp r, getOs hp m l with
    | some o, some os => some (renO m 0 o :: os)
    | _, _ => none
def rnIn (hp : Heap) (order : List Nat) : Rn where
  p r := idxOf order r 0
  o r v := match curV hp r, idxOf order r 0 with
    | some v', some i => (match NB.beq v' v with | true => (some (i, 0)) | false => (none))
    | _, _ => none
def backAt (order : List Nat) (site : Nat) (i : Nat) : Nat :=
  match nthN order i with
  | some r => r
  | none => site + (i - order.length)
def backV (hp : Heap) (order : List Nat) (i : Nat) : Nat :=
  match nthN order i with
  | some r => match curV hp r with
    | some v => v + 1
    | none => 0
  | none => 0
def verO : Obj → Option Nat
  | .buf _ _ v => some v
  | .bufo _ _ v => some v
  | .box _ _ => none
  | .set _ => none
def nthO : List Obj → Nat → Option Obj
  | [], _ => none
  | o :: _, 0 => some o
  | _ :: l, i + 1 => nthO l i
def rnBack (hp : Heap) (order : List Nat) (site : Nat) (objs : List Obj) : Rn where
  p i := some (backAt order site i)
  o i v := match nthO objs i with
    | some o => match verO o with
      | some v' => (match NB.beq v' v with | true => (some (backAt order site i, backV hp order i)) | false => (none))
      | none => none
    | none => none
def updBack (hp : Heap) (order : List Nat) (site : Nat) (m : Rn) : Nat → List Obj → Heap
  | _, [] => []
  | i, o :: os => (backAt order site i, renO m (backV hp order i) o) :: updBack hp order site m (i + 1) os
def freshAt (hp : Heap) : List Nat → Bool
  | [] => true
  | r :: l => match lkH hp r with
    | some _ => false
    | none => NB.ble 64 r && freshAt hp l
def newAts (order : List Nat) (site : Nat) : Nat → List Obj → List Nat
  | _, [] => []
  | i, _ :: os => match nthN order i with
    | some _ => newAts order site (i + 1) os
    | none => (site + (i - order.length)) :: newAts order site (i + 1) os
def reachFuel : Nat := 64
def callOp (S : Sp) (hp : Heap) (site f : Nat) (args : List AV) : Option Res :=
  let as := frzT hp args
  match reach hp reachFuel (ptrsL as) [] with
  | none => none
  | some order =>
    let m := rnIn hp order
    (match distinctN order && NB.ble order.length 64 with | true => (match getOs hp m order with
                                                                                                                            | none => none
                                                                                                                            | some objs =>
                                                                                                                              match S.call f (renL m as) objs with
                                                                                                                              | none => none
                                                                                                                              | some (res, objs') =>
                                                                                                                                let b := rnBack hp order site objs'
                                                                                                                                let ns := newAts order site 0 objs'
                                                                                                                                (match freshAt hp ns with | true => (some ⟨ren b res, updBack hp order site b 0 objs', rdFs args ++ order ++ ns⟩) | false => (none))) | false => (none))
def opd (G : Nat → AV) (env : List (Nat × AV)) : Opd → AV
  | .t i => lkE env i
  | .i n => .pl (.int .i64 n)
  | .c v => v
  | .g i => G i
def opds (G : Nat → AV) (env : List (Nat × AV)) : List Opd → List AV
  | [] => []
  | x :: xs => opd G env x :: opds G env xs
def cellN : List PV → Nat → PV
  | [], _ => .bool false
  | p :: _, 0 => p
  | _ :: l, i + 1 => cellN l i
def cellA : List AV → Nat → Option AV
  | [], _ => none
  | p :: _, 0 => some p
  | _ :: l, i + 1 => cellA l i
def partOf (v : AV) (m off n : Nat) (ag : Bool) : Option AV :=
  (match NB.ble (off + n) m with | true => ((match ag with | true => ((match NB.beq off 0 && NB.beq n m with | true => ((match v with
                                                                                                                                                                                                                                                                                                                                                                                | .st _ cs => some (.st m cs)
                                                                                                                                                                                                                                                                                                                                                                                | .agg cs => some (pack cs)
                                                                                                                                                                                                                                                                                                                                                                                | _ => none)) | false => (match v with
                                                                                                                                                                                                                                                                                                                                                                                | .st _ cs => some (.st n ((cs.drop off).take n))
                                                                                                                                                                                                                                                                                                                                                                                | .agg cs => some (pack ((cs.drop off).take n))
                                                                                                                                                                                                                                                                                                                                                                                | _ => none))) | false => ((match NB.beq n 1 with | true => ((match v with
                                                                                                                                                                                                                                                                                                                                                                                | .st _ cs => some (.pl (cellN cs off))
                                                                                                                                                                                                                                                                                                                                                                                | .agg cs => cellA cs off
                                                                                                                                                                                                                                                                                                                                                                                | .undef => none
                                                                                                                                                                                                                                                                                                                                                                                | .tup _ => none
                                                                                                                                                                                                                                                                                                                                                                                | x => (match NB.beq m 1 with | true => (some x) | false => (none)))) | false => (none))))) | false => (none))
def sizeAV : AV → Nat
  | .st n _ => n
  | .agg cs => cs.length
  | .undef => 0
  | .tup _ => 0
  | _ => 1
def cellsAV : AV → List AV
  | .st _ cs => cs.map .pl
  | .agg cs => cs
  | v => [v]
def putN {α : Type} : List α → Nat → List α → List α
  | l, 0, ps => ps ++ l.drop ps.length
  | [], _ + 1, _ => []
  | a :: l, i + 1, ps => a :: putN l i ps
def putAV (v : AV) (m off n : Nat) (x : AV) : Option AV :=
  (match NB.beq (sizeAV x) n && NB.ble (off + n) m && NB.blt 0 n with | true => ((match NB.beq off 0 && NB.beq n m with | true => (some x) | false => (match v, x with
                                                                                                                                                                                                                                                      | .st _ cs, .pl p => some (.st m (putN cs off [p]))
                                                                                                                                                                                                                                                      | .st _ cs, .st _ ps => some (.st m (putN cs off ps))
                                                                                                                                                                                                                                                      | .st _ cs, x => some (.agg (putN (cs.map .pl) off (cellsAV x)))
                                                                                                                                                                                                                                                      | .agg cs, x => some (.agg (putN cs off (cellsAV x)))
                                                                                                                                                                                                                                                      | _, _ => none))) | false => (none))
def mkBufs : List (Nat × Nat) → Heap
  | [] => []
  | (r, sz) :: l => (r, .buf sz [] 0) :: mkBufs l
def bufAts : List (Nat × Nat) → List Nat
  | [] => []
  | (r, _) :: l => r :: bufAts l
def fillAV (G : Nat → AV) (env : List (Nat × AV)) : List AV → List (Nat × Nat × Opd) → Option (List AV)
  | z, [] => some z
  | z, (off, n, x) :: ps =>
    let v := opd G env x
    (match NB.beq (sizeAV v) n && NB.ble (off + n) z.length && NB.blt 0 n with | true => (fillAV G env (putN z off (cellsAV v)) ps) | false => (none))
def rowOf : AV → Option (List PV)
  | .pl p => some [p]
  | .st _ cs => some cs
  | _ => none
def rowsIn (hp : Heap) (sz : Nat) : List AV → Option (List (List PV))
  | [] => some []
  | v :: vs =>
    let w := frz hp v
    (match NB.beq (sizeAV w) sz with | true => (match rowOf w, rowsIn hp sz vs with
                                                                                                                              | some r, some rs => some (r :: rs)
                                                                                                                              | _, _ => none) | false => (none))
def binEv (op : BinOp) : AV → AV → Option AV
  | .pl (.int k a), .pl (.int k' b) =>
    match op with
    | .shl => (match decide (b < 0) with | true => (none) | false => (some (.pl (.int k (k.wrap (a * 2 ^ (min b.toNat k.bits)))))))
    | .shr => (match decide (b < 0) with | true => (none) | false => (some (.pl (.int k (a.fdiv (2 ^ (min b.toNat k.bits)))))))
    | _ => (match k == k' with | true => (match op with
                                                                                                                              | .add => some (.pl (.int k (k.wrap (a + b))))
                                                                                                                              | .sub => some (.pl (.int k (k.wrap (a - b))))
                                                                                                                              | .mul => some (.pl (.int k (k.wrap (a * b))))
                                                                                                                              | .quo => (match decide (b = 0) with | true => (none) | false => (some (.pl (.int k (k.wrap (a.tdiv b))))))
                                                                                                                              | .rem => (match decide (b = 0) with | true => (none) | false => (some (.pl (.int k (a.tmod b)))))
                                                                                                                              | .and => some (.pl (.int k (k.wrap (BitVec.ofInt k.bits a &&& BitVec.ofInt k.bits b).toNat)))
                                                                                                                              | .or => some (.pl (.int k (k.wrap (BitVec.ofInt k.bits a ||| BitVec.ofInt k.bits b).toNat)))
                                                                                                                              | .xor => some (.pl (.int k (k.wrap (BitVec.ofInt k.bits a ^^^ BitVec.ofInt k.bits b).toNat)))
                                                                                                                              | .andNot => some (.pl (.int k (k.wrap (BitVec.ofInt k.bits a &&& ~~~ BitVec.ofInt k.bits b).toNat)))
                                                                                                                              | .eql => some (.pl (.bool (a == b)))
                                                                                                                              | .neq => some (.pl (.bool (a != b)))
                                                                                                                              | .lss => some (.pl (.bool (decide (a < b))))
                                                                                                                              | .leq => some (.pl (.bool (decide (a ≤ b))))
                                                                                                                              | .gtr => some (.pl (.bool (decide (a > b))))
                                                                                                                              | .geq => some (.pl (.bool (decide (a ≥ b))))
                                                                                                                              | _ => none) | false => (none))
  | _, _ => none
def binbEv (op : BinOp) : AV → AV → Option AV
  | .pl (.bool a), .pl (.bool b) =>
    match op with
    | .eql => some (.pl (.bool (a == b)))
    | .neq => some (.pl (.bool (!(a == b))))
    | _ => none
  | _, _ => none
def unEv (op : UnOp) : AV → Option AV
  | .pl (.bool b) => match op with
    | .not => some (.pl (.bool (!b)))
    | _ => none
  | .pl (.int k n) => match op with
    | .neg => some (.pl (.int k (k.wrap (0 - n))))
    | _ => none
  | _ => none
def asI : AV → Option (IntKind × Int)
  | .pl (.int k n) => some (k, n)
  | _ => none
def optI (G : Nat → AV) (env : List (Nat × AV)) (d : Int) : Option Opd → Option Int
  | none => some d
  | some x => (asI (opd G env x)).map (·.2)
def slcEv (rows : List (List PV)) (sz : Nat) (lo hi : Int) (mx : Option Int) : Option AV :=
  (match decide (0 ≤ lo) && decide (lo ≤ hi) && decide (hi ≤ rows.length) with | true => (match mx with
                                                                                                                            | none => some (.pl (.sl sz ((rows.take hi.toNat).drop lo.toNat)))
                                                                                                                            | some m => (match decide (m = hi) with | true => (some (.ex sz ((rows.take hi.toNat).drop lo.toNat))) | false => (none))) | false => (none))
def stepOp (S : Sp) (G : Nat → AV) (env : List (Nat × AV)) (hp : Heap) : ROp → Option Res
  | .mov x => some ⟨opd G env x, [], []⟩
  | .nilb r sz => (match freshAt hp [r] with | true => (some ⟨.own r 0, [(r, .buf sz [] 0)], [r]⟩) | false => (none))
  | .pick c a b => match opd G env c with
    | .pl (.bool x) => some ⟨(match x with | true => (opd G env a) | false => (opd G env b)), [], []⟩
    | _ => none
  | .box r n x =>
    let v := opd G env x
    (match freshAt hp [r] && NB.beq (sizeAV v) n && NB.blt 0 n with | true => (some ⟨.ptr r 0, [(r, .box n v)], [r]⟩) | false => (none))
  | .alloc r n z bs =>
    (match freshAt hp (r :: bufAts bs) && distinctN (r :: bufAts bs) && NB.beq (sizeAV z) n && NB.blt 0 n with | true => (some ⟨.ptr r 0, (r, .box n z) :: mkBufs bs, r :: bufAts bs⟩) | false => (none))
  | .load n ag a => match opd G env a with
    | .ptr r off => match lkH hp r with
      | some (.box m v) => match partOf v m off n ag with
        | some x => some ⟨x, [], [r]⟩
        | none => none
      | _ => none
    | .rp m cs => (match NB.ble n m && (ag || NB.beq n 1) with | true => (some ⟨(match ag with | true => (.st n ((match NB.beq n m with | true => (cs) | false => (cs.take n)))) | false => (.pl (cellN cs 0))), [], []⟩) | false => (none))
    | _ => none
  | .store n a x => match opd G env a with
    | .ptr r off => match lkH hp r with
      | some (.box m v) => match putAV v m off n (opd G env x) with
        | some v' => some ⟨.undef, [(r, .box m v')], [r]⟩
        | none => none
      | _ => none
    | .op r v => match lkH hp r with
      | some (.bufo sz rows v') => (match NB.beq v' v && NB.beq n sz && NB.beq (sizeAV (frz hp (opd G env x))) n with | true => (match rowOf (frz hp (opd G env x)) with
                                                                                                                                  | some row => some ⟨.undef, [(r, .buf sz (rows ++ [row]) v)], r :: rdF (opd G env x)⟩
                                                                                                                                  | none => none) | false => (none))
      | _ => none
    | _ => none
  | .fadd a off => match opd G env a with
    | .ptr r o => some ⟨.ptr r (o + off), [], []⟩
    | .rp m cs => (match NB.ble off m with | true => (some ⟨.rp (m - off) ((match NB.beq off 0 with | true => (cs) | false => (cs.drop off))), [], []⟩) | false => (none))
    | _ => none
  | .iadd sz xs i => match opd G env xs with
    | .own r v => match lkH hp r, asI (opd G env i) with
      | some (.buf sz' rows v'), some (_, n) =>
        (match NB.beq v' v && NB.beq sz' sz && decide (0 ≤ n) && decide (n < rows.length) with | true => (some ⟨.rp sz (rows.getD n.toNat []), [], [r]⟩) | false => (none))
      | some (.bufo sz' rows v'), some (_, n) =>
        (match NB.beq v' v && NB.beq sz' sz && decide (n = rows.length) with | true => (some ⟨.op r v, [], [r]⟩) | false => (none))
      | _, _ => none
    | _ => match rowsOf hp (opd G env xs), asI (opd G env i) with
    | some (sz', rows), some (_, n) =>
      (match NB.beq sz' sz && decide (0 ≤ n) && decide (n < rows.length) with | true => (some ⟨.rp sz (rows.getD n.toNat []), [], rdF (opd G env xs)⟩) | false => (none))
    | _, _ => none
  | .iarr len sz a i => match opd G env a, asI (opd G env i) with
    | .ptr r o, some (_, n) => (match decide (0 ≤ n) && decide (n < len) with | true => (some ⟨.ptr r (o + n.toNat * sz), [], []⟩) | false => (none))
    | .rp m cs, some (_, n) => (match decide (0 ≤ n) && decide (n < len) && NB.ble (len * sz) m with | true => (some ⟨.rp (m - n.toNat * sz) (cs.drop (n.toNat * sz)), [], []⟩) | false => (none))
    | _, _ => none
  | .fld x off n ag => match opd G env x with
    | .st m cs => match partOf (.st m cs) m off n ag with
      | some y => some ⟨y, [], []⟩
      | none => none
    | .agg cs => match partOf (.agg cs) cs.length off n ag with
      | some y => some ⟨y, [], []⟩
      | none => none
    | _ => none
  | .build z bs ps =>
    (match freshAt hp (bufAts bs) && distinctN (bufAts bs) with | true => (match fillAV G env z ps with
                                                                                                                              | some cs => some ⟨pack cs, mkBufs bs, bufAts bs⟩
                                                                                                                              | none => none) | false => (none))
  | .bsl sz ps =>
    match rowsIn hp sz (opds G env ps) with
    | some rows => some ⟨.pl (.sl sz rows), [], rdFs (opds G env ps)⟩
    | none => none
  | .bslo r sz ps =>
    (match freshAt hp [r] && NB.blt 0 ps.length with | true => (match rowsIn hp sz (opds G env ps) with
                                                                                                                              | some rows => some ⟨.own r 0, [(r, .buf sz rows 0)], r :: rdFs (opds G env ps)⟩
                                                                                                                              | none => none) | false => (none))
  | .bin op x y => match binEv op (opd G env x) (opd G env y) with
    | some v => some ⟨v, [], []⟩
    | none => none
  | .binb op x y => match binbEv op (opd G env x) (opd G env y) with
    | some v => some ⟨v, [], []⟩
    | none => none
  | .un op x => match unEv op (opd G env x) with
    | some v => some ⟨v, [], []⟩
    | none => none
  | .conv k x => match opd G env x with
    | .pl (.int _ n) => some ⟨.pl (.int k (k.wrap n)), [], []⟩
    | _ => none
  | .len x => match rowsOf hp (opd G env x) with
    | some (_, rows) => some ⟨.pl (.int .i64 rows.length), [], rdF (opd G env x)⟩
    | none => none
  | .lens x => match opd G env x with
    | .pl (.str s) => some ⟨.pl (.int .i64 s.size), [], []⟩
    | _ => none
  | .slc sz0 x lo hi mx => match rowsOf hp (opd G env x) with
    | some (sz, rows) => (match NB.beq sz sz0 with | true => (match optI G env 0 lo, optI G env rows.length hi, (match mx with | none => some none | some y => (asI (opd G env y)).map fun p => some p.2) with
                                                                                                                              | some l, some h, some m => match slcEv rows sz l h m with
                                                                                                                                | some v => some ⟨v, [], rdF (opd G env x)⟩
                                                                                                                                | none => none
                                                                                                                              | _, _, _ => none) | false => (none))
    | none => none
  | .app sz x y => match rowsOf hp (opd G env y) with
    | some (sy, ys) => match opd G env x with
      | .own r v => match lkH hp r with
        | some (.buf s rows v') =>
          (match NB.beq v' v && NB.beq s sz && NB.beq sy sz && decide (rows.length + ys.length < 2 ^ 32) with | true => (some ⟨.own r (v + 1), [(r, .buf sz (rows ++ ys) (v + 1))], r :: rdF (opd G env y)⟩) | false => (none))
        | _ => none
      | .ex s rows => (match NB.beq s sz && NB.beq sy sz && decide (rows.length + ys.length < 2 ^ 32) with | true => (some ⟨.pl (.sl sz (rows ++ ys)), [], rdF (opd G env y)⟩) | false => (none))
      | _ => none
    | none => none
  | .appo sz x y => match rowsOf hp (opd G env y) with
    | some (sy, [_]) => match opd G env x with
      | .own r v => match lkH hp r with
        | some (.buf s rows v') =>
          (match NB.beq v' v && NB.beq s sz && NB.beq sy sz && decide (rows.length + 1 < 2 ^ 32) with | true => (some ⟨.own r (v + 1), [(r, .bufo sz rows (v + 1))], r :: rdF (opd G env y)⟩) | false => (none))
        | _ => none
      | _ => none
    | _ => none
  | .appn r sz y => match rowsOf hp (opd G env y) with
    | some (sy, ys) => (match freshAt hp [r] && NB.beq sy sz && decide (ys.length < 2 ^ 32) with | true => (some ⟨.own r 0, [(r, .buf sz ys 0)], r :: rdF (opd G env y)⟩) | false => (none))
    | none => none
  | .ext x i => match opd G env x with
    | .tup vs => match cellA vs i with
      | some v => some ⟨v, [], []⟩
      | none => none
    | _ => none
  | .mkf f caps => some ⟨.fn f (frzT hp (opds G env caps)), [], rdFs (opds G env caps)⟩
  | .call site f args => callOp S hp site f (opds G env args)
  | .callv site f args => match opd G env f with
    | .fn k caps => callOp S hp site k (opds G env args ++ caps)
    | _ => none
  | .chk x => match opd G env x with
    | .ptr r o => some ⟨.ptr r o, [], []⟩
    | .rp n cs => some ⟨.rp n cs, [], []⟩
    | .fn f cs => some ⟨.fn f cs, [], []⟩
    | _ => none
  | .min2 x y => match opd G env x, opd G env y with
    | .pl (.int k a), .pl (.int _ b) => some ⟨.pl (.int k ((match decide (b < a) with | true => (b) | false => (a)))), [], []⟩
    | _, _ => none
  | .max2 x y => match opd G env x, opd G env y with
    | .pl (.int k a), .pl (.int _ b) => some ⟨.pl (.int k ((match decide (a < b) with | true => (b) | false => (a)))), [], []⟩
    | _, _ => none
  | .mset r => (match freshAt hp [r] with | true => (some ⟨.mp r, [(r, .set [])], [r]⟩) | false => (none))
  | .mput m k => match opd G env m, asI (opd G env k) with
    | .mp r, some (.i64, n) => match lkH hp r with
      | some (.set ks) => some ⟨.undef, [(r, .set (insK ks n))], [r]⟩
      | _ => none
    | _, _ => none
  | .srt m => match opd G env m with
    | .mp r => match lkH hp r with
      | some (.set ks) => (match decide (ks.length < 2 ^ 32) with | true => (some ⟨.pl (.sl 1 (rowsK (sortK ks))), [], [r]⟩) | false => (none))
      | _ => none
    | _ => none
def setE (env : List (Nat × AV)) : Option Nat → AV → List (Nat × AV)
  | some d, v => (d, v) :: env
  | none, _ => env
def wantedR (env : List (Nat × AV)) : Option (Nat × Bool) → Option Bool
  | none => some true
  | some (t, b) => match lkE env t with
    | .pl (.bool x) => some (x == b)
    | .tup [] => some false
    | _ => none
def keysH : Heap → List Nat
  | [] => []
  | (r, _) :: l => r :: keysH l
def stepRO (S : Sp) (G : Nat → AV) (o : RO) (s : St) : Option (St × Foot) :=
  match wantedR s.env o.gd with
  | some true => match stepOp S G s.env s.hp o.op with
    | some r => some (⟨setE s.env o.d r.v, r.upd ++ s.hp⟩, (r.rd, keysH r.upd))
    | none => none
  | some false => some (⟨setE s.env o.d (.tup []), s.hp⟩, ([], []))
  | none => none
def runOps (S : Sp) (G : Nat → AV) : List RO → St → Option St
  | [], s => some s
  | o :: os, s => match stepRO S G o s with
    | some (s', _) => runOps S G os s'
    | none => none
def runDrw (S : Sp) (G : Nat → AV) : List RO → St → Option (St × List Foot)
  | [], s => some (s, [])
  | o :: os, s => match stepRO S G o s with
    | some (s', f) => match runDrw S G os s' with
      | some (s'', fs) => some (s'', f :: fs)
      | none => none
    | none => none
def apartL (a b : List Nat) : Bool :=
  match a with
  | [] => true
  | r :: l => !memN b r && apartL l b
def apartF (f g : Foot) : Bool := apartL f.2 g.1 && apartL f.2 g.2 && apartL f.1 g.2
def apartAll (mask : Nat) (g : Foot) : Nat → List Foot → Bool
  | _, [] => true
  | i, f :: fs => (Nat.testBit mask i || apartF f g) && apartAll mask g (i + 1) fs
def drwOk : List Foot → List Nat → List Foot → Bool
  | _, [], [] => true
  | done, m :: ms, f :: fs => apartAll m f 0 done && drwOk (done ++ [f]) ms fs
  | _, _, _ => false
def rnKeep (hp : Heap) (keep : List Nat) : Rn where
  p r := (match memN keep r with | true => ((match lkH hp r with
                                                                                                                            | some _ => some r
                                                                                                                            | none => none)) | false => (none))
  o r v := match curV hp r with
    | some v' => (match NB.beq v' v && memN keep r with | true => (some (r, 0)) | false => (none))
    | none => none
def canonE (m : Rn) (env : List (Nat × AV)) : List Nat → List (Nat × AV)
  | [] => []
  | t :: ts => (t, ren m (lkE env t)) :: canonE m env ts
def canonH (m : Rn) (hp : Heap) : List Nat → Heap
  | [] => []
  | r :: rs => match lkH hp r with
    | some o => (r, renO m 0 o) :: canonH m hp rs
    | none => canonH m hp rs
def canon (live keep : List Nat) (s : St) : St :=
  ⟨canonE (rnKeep s.hp keep) s.env live, canonH (rnKeep s.hp keep) s.hp keep⟩
def ev (S : Sp) (G : Nat → AV) : RC → St → Option (Ex × St)
  | .skip, s => some (.normal, s)
  | .reg ops, s => match runOps S G ops s with
    | some s' => some (.normal, s')
    | none => none
  | .drw ops masks, s => match runDrw S G ops s with
    | some (s', fs) => (match drwOk [] masks fs with | true => (some (.normal, s')) | false => (none))
    | none => none
  | .seq a b, s => match ev S G a s with
    | some (.normal, s') => ev S G b s'
    | r => r
  | .cond c a b, s => match opd G s.env c with
    | .pl (.bool x) => (match x with | true => (ev S G a s) | false => (ev S G b s))
    | _ => none
  | .block id b, s => match ev S G b s with
    | some (.exit id', s') => (match NB.beq id' id with | true => (some (.normal, s')) | false => (some (.exit id', s')))
    | r => r
  | .loop live keep b, s => S.loop (.loop live keep b) s
  | .exit id, s => some (.exit id, s)
  | .ret, s => some (.ret, s)
def loopStep (S : Sp) (G : Nat → AV) : RC → St → Option (Ex × St)
  | .loop live keep b, s => match ev S G b (canon live keep s) with
    | some (.normal, s') => S.loop (.loop live keep b) s'
    | some (e, s') => some (e, canon live keep s')
    | none => none
  | _, _ => none
def initE : Nat → List AV → List (Nat × AV)
  | _, [] => []
  | i, v :: vs => (i, v) :: initE (i + 1) vs
def initH : Nat → List Obj → Heap
  | _, [] => []
  | i, o :: os => (i, o) :: initH (i + 1) os
def resV (s : St) : RRes → Option AV
  | .tmp t => some (lkE s.env t)
  | .cell t n ag => match lkE s.env t with
    | .ptr r off => match lkH s.hp r with
      | some (.box m v) => partOf v m off n ag
      | _ => none
    | _ => none
def resVs (s : St) : List RRes → Option (List AV)
  | [] => some []
  | r :: rs => match resV s r, resVs s rs with
    | some v, some vs => some (frz s.hp v :: vs)
    | _, _ => none
def rangeN : Nat → Nat → List Nat
  | _, 0 => []
  | i, n + 1 => i :: rangeN (i + 1) n
def startsAt : Nat → Nat → List Nat → Bool
  | _, 0, _ => true
  | i, n + 1, r :: l => NB.beq r i && startsAt (i + 1) n l
  | _, _ + 1, [] => false
def oneOf : List AV → AV
  | [v] => v
  | vs => .tup vs
def finish (k : Nat) (res : List RRes) (s : St) : Option (AV × List Obj) :=
  match resVs s res with
  | none => none
  | some vs =>
    match reach s.hp reachFuel (rangeN 0 k ++ ptrsL vs) [] with
    | none => none
    | some order =>
      let m := rnIn s.hp order
      (match distinctN order && startsAt 0 k order with | true => (match getOs s.hp m order with
                                                                                                                                | none => none
                                                                                                                                | some objs => some (oneOf (renL m vs), objs)) | false => (none))
def runBody (S : Sp) (G : Nat → AV) (f : RFunc) (args : List AV) (h : List Obj) : Option (AV × List Obj) :=
  (match NB.beq args.length f.params with | true => (match ev S G f.body ⟨initE 0 args, initH 0 h⟩ with
                                                                                                                            | some (.normal, s) => finish h.length f.res s
                                                                                                                            | some (.ret, s) => finish h.length f.res s
                                                                                                                            | _ => none) | false => (none))
end
end QP
namespace Qk
open Go
def lkE : List (Nat × AV) → Nat → AV
  | [], _ => .undef
  | (k, v) :: l, t => (match (k == t) with | true => (v) | false => (lkE l t))
def lkH : Heap → Nat → Option Obj
  | [], _ => none
  | (k, o) :: l, r => (match (k == r) with | true => (some o) | false => (lkH l r))
def idxOf : List Nat → Nat → Nat → Option Nat
  | [], _, _ => none
  | k :: l, r, i => (match (k == r) with | true => (some i) | false => (idxOf l r (i + 1)))
def memN : List Nat → Nat → Bool
  | [], _ => false
  | k :: l, r => (match (k == r) with | true => (true) | false => (memN l r))
def nthN : List Nat → Nat → Option Nat
  | [], _ => none
  | k :: _, 0 => some k
  | _ :: l, i + 1 => nthN l i
def distinctN : List Nat → Bool
  | [] => true
  | r :: l => !memN l r && distinctN l
mutual
def ptrs : AV → List Nat
  | .own r _ => [r]
  | .ptr r _ => [r]
  | .mp r => [r]
  | .fn _ cs => ptrsL cs
  | .agg cs => ptrsL cs
  | .tup cs => ptrsL cs
  | _ => []
def ptrsL : List AV → List Nat
  | [] => []
  | v :: vs => ptrs v ++ ptrsL vs
end
mutual
def ren (m : Rn) : AV → AV
  | .own r v => match m.o r v with
    | some (r', v') => .own r' v'
    | none => .pl .top
  | .ptr r off => match m.p r with
    | some r' => .ptr r' off
    | none => .pl .top
  | .mp r => match m.p r with
    | some r' => .mp r'
    | none => .pl .top
  | .fn f cs => .fn f (renL m cs)
  | .agg cs => .agg (renL m cs)
  | .tup cs => .tup (renL m cs)
  | .op _ _ => .pl .top
  | .undef => .undef
  | .pl p => .pl p
  | .st n cs => .st n cs
  | .ex sz rows => .ex sz rows
  | .rp n cs => .rp n cs
  | .nilp => .nilp
  | .nilf => .nilf
def renL (m : Rn) : List AV → List AV
  | [] => []
  | v :: vs => ren m v :: renL m vs
end
def curV (hp : Heap) (r : Nat) : Option Nat :=
  match lkH hp r with
  | some (.buf _ _ v) => some v
  | some (.bufo _ _ v) => some v
  | _ => none
def rowsOf (hp : Heap) : AV → Option (Nat × List (List PV))
  | .pl (.sl sz rows) => some (sz, rows)
  | .ex sz rows => some (sz, rows)
  | .own r v => match lkH hp r with
    | some (.buf sz rows v') => (match (v' == v) with | true => (some (sz, rows)) | false => (none))
    | _ => none
  | _ => none
def plains : List AV → Option (List PV)
  | [] => some []
  | .pl p :: l => match plains l with
    | some ps => some (p :: ps)
    | none => none
  | _ :: _ => none
def pack (cs : List AV) : AV :=
  match plains cs with
  | some ps => .st cs.length ps
  | none => .agg cs
def frz1 (hp : Heap) : AV → AV
  | .own r v => match rowsOf hp (.own r v) with
    | some (sz, rows) => .pl (.sl sz rows)
    | none => .undef
  | .ex sz rows => .pl (.sl sz rows)
  | v => v
def frzL (hp : Heap) : List AV → List AV
  | [] => []
  | v :: vs => frz1 hp v :: frzL hp vs
def frz (hp : Heap) : AV → AV
  | .agg cs => pack (frzL hp cs)
  | v => frz1 hp v
def frzT (hp : Heap) : List AV → List AV
  | [] => []
  | v :: vs => frz hp v :: frzT hp vs
def rdF : AV → List Nat
  | .own r _ => [r]
  | .agg cs => ptrsL cs
  | _ => []
def rdFs : List AV → List Nat
  | [] => []
  | v :: vs => rdF v ++ rdFs vs
def ptrsO : Obj → List Nat
  | .box _ v => ptrs v
  | .buf .. => []
  | .bufo .. => []
  | .set _ => []
def reach (hp : Heap) : Nat → List Nat → List Nat → Option (List Nat)
  | 0, _, _ => none
  | _ + 1, [], seen => some seen
  | n + 1, r :: todo, seen =>
    (match memN seen r with | true => (reach hp n todo seen) | false => (match lkH hp r with
                                                                                                                              | some o => reach hp n (todo ++ ptrsO o) (seen ++ [r])
                                                                                                                              | none => none))
def renO (m : Rn) (nv : Nat) : Obj → Obj
  | .box n v => .box n (ren m v)
  | .buf sz rows _ => .buf sz rows nv
  | .bufo sz rows _ => .bufo sz rows nv
  | .set ks => .set ks
def getOs (hp : Heap) (m : Rn) : List Nat → Option (List Obj)
  | [] => some []
  | r :: l => match lkH hp r, getOs hp m l with
    | some o, some os => some (renO m 0 o :: os)
    | _, _ => none
def rnIn (hp : Heap) (order : List Nat) : Rn where
  p r := idxOf order r 0
  o r v := match curV hp r, idxOf order r 0 with
    | some v', some i => (match (v' == v) with | true => (some (i, 0)) | false => (none))
    | _, _ => none
def backAt (order : List Nat) (site : Nat) (i : Nat) : Nat :=
  match nthN order i with
  | some r => r
  | none => site + (i - order.length)
def backV (hp : Heap) (order : List Nat) (i : Nat) : Nat :=
  match nthN order i with
  | some r => match curV hp r with
    | some v => v + 1
    | none => 0
  | none => 0
def verO : Obj → Option Nat
  | .buf _ _ v => some v
  | .bufo _ _ v => some v
  | .box _ _ => none
  | .set _ => none
def nthO : List Obj → Nat → Option Obj
  | [], _ => none
  | o :: _, 0 => some o
  | _ :: l, i + 1 => nthO l i
def rnBack (hp : Heap) (order : List Nat) (site : Nat) (objs : List Obj) : Rn where
  p i := some (backAt order site i)
  o i v := match nthO objs i with
    | some o => match verO o with
      | some v' => (match (v' == v) with | true => (some (backAt order site i, backV hp order i)) | false => (none))
      | none => none
    | none => none
def updBack (hp : Heap) (order : List Nat) (site : Nat) (m : Rn) : Nat → List Obj → Heap
  | _, [] => []
  | i, o :: os => (backAt order site i, renO m (backV hp order i) o) :: updBack hp order site m (i + 1) os
def freshAt (hp : Heap) : List Nat → Bool
  | [] => true
  | r :: l => match lkH hp r with
    | some _ => false
    | none => decide (64 ≤ r) && freshAt hp l
def newAts (order : List Nat) (site : Nat) : Nat → List Obj → List Nat
  | _, [] => []
  | i, _ :: os => match nthN order i with
    | some _ => newAts order site (i + 1) os
    | none => (site + (i - order.length)) :: newAts order site (i + 1) os
def reachFuel : Nat := 64
def callOp (S : Sp) (hp : Heap) (site f : Nat) (args : List AV) : Option Res :=
  let as := frzT hp args
  match reach hp reachFuel (ptrsL as) [] with
  | none => none
  | some order =>
    let m := rnIn hp order
    (match distinctN order && decide (order.length ≤ 64) with | true => (match getOs hp m order with
                                                                                                                            | none => none
                                                                                                                            | some objs =>
                                                                                                                              match S.call f (renL m as) objs with
                                                                                                                              | none => none
                                                                                                                              | some (res, objs') =>
                                                                                                                                let b := rnBack hp order site objs'
                                                                                                                                let ns := newAts order site 0 objs'
                                                                                                                                (match freshAt hp ns with | true => (some ⟨ren b res, updBack hp order site b 0 objs', rdFs args ++ order ++ ns⟩) | false => (none))) | false => (none))
def opd (G : Nat → AV) (env : List (Nat × AV)) : Opd → AV
  | .t i => lkE env i
  | .i n => .pl (.int .i64 n)
  | .c v => v
  | .g i => G i
def opds (G : Nat → AV) (env : List (Nat × AV)) : List Opd → List AV
  | [] => []
  | x :: xs => opd G env x :: opds G env xs
def cellN : List PV → Nat → PV
  | [], _ => .bool false
  | p :: _, 0 => p
  | _ :: l, i + 1 => cellN l i
def cellA : List AV → Nat → Option AV
  | [], _ => none
  | p :: _, 0 => some p
  | _ :: l, i + 1 => cellA l i
def partOf (v : AV) (m off n : Nat) (ag : Bool) : Option AV :=
  (match decide ((off + n) ≤ m) with | true => ((match ag with | true => ((match (off == 0) && (n == m) with | true => ((match v with
                                                                                                                                                                                                                                                                                                                                                                                | .st _ cs => some (.st m cs)
                                                                                                                                                                                                                                                                                                                                                                                | .agg cs => some (pack cs)
                                                                                                                                                                                                                                                                                                                                                                                | _ => none)) | false => (match v with
                                                                                                                                                                                                                                                                                                                                                                                | .st _ cs => some (.st n ((cs.drop off).take n))
                                                                                                                                                                                                                                                                                                                                                                                | .agg cs => some (pack ((cs.drop off).take n))
                                                                                                                                                                                                                                                                                                                                                                                | _ => none))) | false => ((match (n == 1) with | true => ((match v with
                                                                                                                                                                                                                                                                                                                                                                                | .st _ cs => some (.pl (cellN cs off))
                                                                                                                                                                                                                                                                                                                                                                                | .agg cs => cellA cs off
                                                                                                                                                                                                                                                                                                                                                                                | .undef => none
                                                                                                                                                                                                                                                                                                                                                                                | .tup _ => none
                                                                                                                                                                                                                                                                                                                                                                                | x => (match (m == 1) with | true => (some x) | false => (none)))) | false => (none))))) | false => (none))
def sizeAV : AV → Nat
  | .st n _ => n
  | .agg cs => cs.length
  | .undef => 0
  | .tup _ => 0
  | _ => 1
def cellsAV : AV → List AV
  | .st _ cs => cs.map .pl
  | .agg cs => cs
  | v => [v]
def putN {α : Type} : List α → Nat → List α → List α
  | l, 0, ps => ps ++ l.drop ps.length
  | [], _ + 1, _ => []
  | a :: l, i + 1, ps => a :: putN l i ps
def putAV (v : AV) (m off n : Nat) (x : AV) : Option AV :=
  (match ((sizeAV x) == n) && decide ((off + n) ≤ m) && decide (0 < n) with | true => ((match (off == 0) && (n == m) with | true => (some x) | false => (match v, x with
                                                                                                                                                                                                                                                      | .st _ cs, .pl p => some (.st m (putN cs off [p]))
                                                                                                                                                                                                                                                      | .st _ cs, .st _ ps => some (.st m (putN cs off ps))
                                                                                                                                                                                                                                                      | .st _ cs, x => some (.agg (putN (cs.map .pl) off (cellsAV x)))
                                                                                                                                                                                                                                                      | .agg cs, x => some (.agg (putN cs off (cellsAV x)))
                                                                                                                                                                                                                                                      | _, _ => none))) | false => (none))
def mkBufs : List (Nat × Nat) → Heap
  | [] => []
  | (r, sz) :: l => (r, .buf sz [] 0) :: mkBufs l
def bufAts : List (Nat × Nat) → List Nat
  | [] => []
  | (r, _) :: l => r :: bufAts l
def fillAV (G : Nat → AV) (env : List (Nat × AV)) : List AV → List (Nat × Nat × Opd) → Option (List AV)
  | z, [] => some z
  | z, (off, n, x) :: ps =>
    let v := opd G env x
    (match ((sizeAV v) == n) && decide ((off + n) ≤ z.length) && decide (0 < n) with | true => (fillAV G env (putN z off (cellsAV v)) ps) | false => (none))
def rowOf : AV → Option (List PV)
  | .pl p => some [p]
  | .st _ cs => some cs
  | _ => none
def rowsIn (hp : Heap) (sz : Nat) : List AV → Option (List (List PV))
  | [] => some []
  | v :: vs =>
    let w := frz hp v
    (match ((sizeAV w) == sz) with | true => (match rowOf w, rowsIn hp sz vs with
                                                                                                                              | some r, some rs => some (r :: rs)
                                                                                                                              | _, _ => none) | false => (none))
def binEv (op : BinOp) : AV → AV → Option AV
  | .pl (.int k a), .pl (.int k' b) =>
    match op with
    | .shl => (match decide (b < 0) with | true => (none) | false => (some (.pl (.int k (k.wrap (a * 2 ^ (min b.toNat k.bits)))))))
    | .shr => (match decide (b < 0) with | true => (none) | false => (some (.pl (.int k (a.fdiv (2 ^ (min b.toNat k.bits)))))))
    | _ => (match k == k' with | true => (match op with
                                                                                                                              | .add => some (.pl (.int k (k.wrap (a + b))))
                                                                                                                              | .sub => some (.pl (.int k (k.wrap (a - b))))
                                                                                                                              | .mul => some (.pl (.int k (k.wrap (a * b))))
                                                                                                                              | .quo => (match decide (b = 0) with | true => (none) | false => (some (.pl (.int k (k.wrap (a.tdiv b))))))
                                                                                                                              | .rem => (match decide (b = 0) with | true => (none) | false => (some (.pl (.int k (a.tmod b)))))
                                                                                                                              | .and => some (.pl (.int k (k.wrap (BitVec.ofInt k.bits a &&& BitVec.ofInt k.bits b).toNat)))
                                                                                                                              | .or => some (.pl (.int k (k.wrap (BitVec.ofInt k.bits a ||| BitVec.ofInt k.bits b).toNat)))
                                                                                                                              | .xor => some (.pl (.int k (k.wrap (BitVec.ofInt k.bits a ^^^ BitVec.ofInt k.bits b).toNat)))
                                                                                                                              | .andNot => some (.pl (.int k (k.wrap (BitVec.ofInt k.bits a &&& ~~~ BitVec.ofInt k.bits b).toNat)))
                                                                                                                              | .eql => some (.pl (.bool (a == b)))
                                                                                                                              | .neq => some (.pl (.bool (a != b)))
                                                                                                                              | .lss => some (.pl (.bool (decide (a < b))))
                                                                                                                              | .leq => some (.pl (.bool (decide (a ≤ b))))
                                                                                                                              | .gtr => some (.pl (.bool (decide (a > b))))
                                                                                                                              | .geq => some (.pl (.bool (decide (a ≥ b))))
                                                                                                                              | _ => none) | false => (none))
  | _, _ => none
def binbEv (op : BinOp) : AV → AV → Option AV
  | .pl (.bool a), .pl (.bool b) =>
    match op with
    | .eql => some (.pl (.bool (a == b)))
    | .neq => some (.pl (.bool (!(a == b))))
    | _ => none
  | _, _ => none
def unEv (op : UnOp) : AV → Option AV
  | .pl (.bool b) => match op with
    | .not => some (.pl (.bool (!b)))
    | _ => none
  | .pl (.int k n) => match op with
    | .neg => some (.pl (.int k (k.wrap (0 - n))))
    | _ => none
  | _ => none
def asI : AV → Option (IntKind × Int)
  | .pl (.int k n) => some (k, n)
  | _ => none
def optI (G : Nat → AV) (env : List (Nat × AV)) (d : Int) : Option Opd → Option Int
  | none => some d
  | some x => (asI (opd G env x)).map (·.2)
def slcEv (rows : List (List PV)) (sz : Nat) (lo hi : Int) (mx : Option Int) : Option AV :=
  (match decide (0 ≤ lo) && decide (lo ≤ hi) && decide (hi ≤ rows.length) with | true => (match mx with
                                                                                                                            | none => some (.pl (.sl sz ((rows.take hi.toNat).drop lo.toNat)))
                                                                                                                            | some m => (match decide (m = hi) with | true => (some (.ex sz ((rows.take hi.toNat).drop lo.toNat))) | false => (none))) | false => (none))
def stepOp (S : Sp) (G : Nat → AV) (env : List (Nat × AV)) (hp : Heap) : ROp → Option Res
  | .mov x => some ⟨opd G env x, [], []⟩
  | .nilb r sz => (match freshAt hp [r] with | true => (some ⟨.own r 0, [(r, .buf sz [] 0)], [r]⟩) | false => (none))
  | .pick c a b => match opd G env c with
    | .pl (.bool x) => some ⟨(match x with | true => (opd G env a) | false => (opd G env b)), [], []⟩
    | _ => none
  | .box r n x =>
    let v := opd G env x
    (match freshAt hp [r] && ((sizeAV v) == n) && decide (0 < n) with | true => (some ⟨.ptr r 0, [(r, .box n v)], [r]⟩) | false => (none))
  | .alloc r n z bs =>
    (match freshAt hp (r :: bufAts bs) && distinctN (r :: bufAts bs) && ((sizeAV z) == n) && decide (0 < n) with | true => (some ⟨.ptr r 0, (r, .box n z) :: mkBufs bs, r :: bufAts bs⟩) | false => (none))
  | .load n ag a => match opd G env a with
    | .ptr r off => match lkH hp r with
      | some (.box m v) => match partOf v m off n ag with
        | some x => some ⟨x, [], [r]⟩
        | none => none
      | _ => none
    | .rp m cs => (match decide (n ≤ m) && (ag || (n == 1)) with | true => (some ⟨(match ag with | true => (.st n ((match (n == m) with | true => (cs) | false => (cs.take n)))) | false => (.pl (cellN cs 0))), [], []⟩) | false => (none))
    | _ => none
  | .store n a x => match opd G env a with
    | .ptr r off => match lkH hp r with
      | some (.box m v) => match putAV v m off n (opd G env x) with
        | some v' => some ⟨.undef, [(r, .box m v')], [r]⟩
        | none => none
      | _ => none
    | .op r v => match lkH hp r with
      | some (.bufo sz rows v') => (match (v' == v) && (n == sz) && ((sizeAV (frz hp (opd G env x))) == n) with | true => (match rowOf (frz hp (opd G env x)) with
                                                                                                                                  | some row => some ⟨.undef, [(r, .buf sz (rows ++ [row]) v)], r :: rdF (opd G env x)⟩
                                                                                                                                  | none => none) | false => (none))
      | _ => none
    | _ => none
  | .fadd a off => match opd G env a with
    | .ptr r o => some ⟨.ptr r (o + off), [], []⟩
    | .rp m cs => (match decide (off ≤ m) with | true => (some ⟨.rp (m - off) ((match (off == 0) with | true => (cs) | false => (cs.drop off))), [], []⟩) | false => (none))
    | _ => none
  | .iadd sz xs i => match opd G env xs with
    | .own r v => match lkH hp r, asI (opd G env i) with
      | some (.buf sz' rows v'), some (_, n) =>
        (match (v' == v) && (sz' == sz) && decide (0 ≤ n) && decide (n < rows.length) with | true => (some ⟨.rp sz (rows.getD n.toNat []), [], [r]⟩) | false => (none))
      | some (.bufo sz' rows v'), some (_, n) =>
        (match (v' == v) && (sz' == sz) && decide (n = rows.length) with | true => (some ⟨.op r v, [], [r]⟩) | false => (none))
      | _, _ => none
    | _ => match rowsOf hp (opd G env xs), asI (opd G env i) with
    | some (sz', rows), some (_, n) =>
      (match (sz' == sz) && decide (0 ≤ n) && decide (n < rows.length) with | true => (some ⟨.rp sz (rows.getD n.toNat []), [], rdF (opd G env xs)⟩) | false => (none))
    | _, _ => none
  | .iarr len sz a i => match opd G env a, asI (opd G env i) with
    | .ptr r o, some (_, n) => (match decide (0 ≤ n) && decide (n < len) with | true => (some ⟨.ptr r (o + n.toNat * sz), [], []⟩) | false => (none))
    | .rp m cs, some (_, n) => (match decide (0 ≤ n) && decide (n < len) && decide ((len * sz) ≤ m) with | true => (some ⟨.rp (m - n.toNat * sz) (cs.drop (n.toNat * sz)), [], []⟩) | false => (none))
    | _, _ => none
  | .fld x off n ag => match opd G env x with
    | .st m cs => match partOf (.st m cs) m off n ag with
      | some y => some ⟨y, [], []⟩
      | none => none
    | .agg cs => match partOf (.agg cs) cs.length off n ag with
      | some y => some ⟨y, [], []⟩
      | none => none
    | _ => none
  | .build z bs ps =>
    (match freshAt hp (bufAts bs) && distinctN (bufAts bs) with | true => (match fillAV G env z ps with
                                                                                                                              | some cs => some ⟨pack cs, mkBufs bs, bufAts bs⟩
                                                                                                                              | none => none) | false => (none))
  | .bsl sz ps =>
    match rowsIn hp sz (opds G env ps) with
    | some rows => some ⟨.pl (.sl sz rows), [], rdFs (opds G env ps)⟩
    | none => none
  | .bslo r sz ps =>
    (match freshAt hp [r] && decide (0 < ps.length) with | true => (match rowsIn hp sz (opds G env ps) with
                                                                                                                              | some rows => some ⟨.own r 0, [(r, .buf sz rows 0)], r :: rdFs (opds G env ps)⟩
                                                                                                                              | none => none) | false => (none))
  | .bin op x y => match binEv op (opd G env x) (opd G env y) with
    | some v => some ⟨v, [], []⟩
    | none => none
  | .binb op x y => match binbEv op (opd G env x) (opd G env y) with
    | some v => some ⟨v, [], []⟩
    | none => none
  | .un op x => match unEv op (opd G env x) with
    | some v => some ⟨v, [], []⟩
    | none => none
  | .conv k x => match opd G env x with
    | .pl (.int _ n) => some ⟨.pl (.int k (k.wrap n)), [], []⟩
    | _ => none
  | .len x => match rowsOf hp (opd G env x) with
    | some (_, rows) => some ⟨.pl (.int .i64 rows.length), [], rdF (opd G env x)⟩
    | none => none
  | .lens x => match opd G env x with
    | .pl (.str s) => some ⟨.pl (.int .i64 s.size), [], []⟩
    | _ => none
  | .slc sz0 x lo hi mx => match rowsOf hp (opd G env x) with
    | some (sz, rows) => (match (sz == sz0) with | true => (match optI G env 0 lo, optI G env rows.length hi, (match mx with | none => some none | some y => (asI (opd G env y)).map fun p => some p.2) with
                                                                                                                              | some l, some h, some m => match slcEv rows sz l h m with
                                                                                                                                | some v => some ⟨v, [], rdF (opd G env x)⟩
                                                                                                                                | none => none
                                                                                                                              | _, _, _ => none) | false => (none))
    | none => none
  | .app sz x y => match rowsOf hp (opd G env y) with
    | some (sy, ys) => match opd G env x with
      | .own r v => match lkH hp r with
        | some (.buf s rows v') =>
          (match (v' == v) && (s == sz) && (sy == sz) && decide (rows.length + ys.length < 2 ^ 32) with | true => (some ⟨.own r (v + 1), [(r, .buf sz (rows ++ ys) (v + 1))], r :: rdF (opd G env y)⟩) | false => (none))
        | _ => none
      | .ex s rows => (match (s == sz) && (sy == sz) && decide (rows.length + ys.length < 2 ^ 32) with | true => (some ⟨.pl (.sl sz (rows ++ ys)), [], rdF (opd G env y)⟩) | false => (none))
      | _ => none
    | none => none
  | .appo sz x y => match rowsOf hp (opd G env y) with
    | some (sy, [_]) => match opd G env x with
      | .own r v => match lkH hp r with
        | some (.buf s rows v') =>
          (match (v' == v) && (s == sz) && (sy == sz) && decide (rows.length + 1 < 2 ^ 32) with | true => (some ⟨.own r (v + 1), [(r, .bufo sz rows (v + 1))], r :: rdF (opd G env y)⟩) | false => (none))
        | _ => none
      | _ => none
    | _ => none
  | .appn r sz y => match rowsOf hp (opd G env y) with
    | some (sy, ys) => (match freshAt hp [r] && (sy == sz) && decide (ys.length < 2 ^ 32) with | true => (some ⟨.own r 0, [(r, .buf sz ys 0)], r :: rdF (opd G env y)⟩) | false => (none))
    | none => none
  | .ext x i => match opd G env x with
    | .tup vs => match cellA vs i with
      | some v => some ⟨v, [], []⟩
      | none => none
    | _ => none
  | .mkf f caps => some ⟨.fn f (frzT hp (opds G env caps)), [], rdFs (opds G env caps)⟩
  | .call site f args => callOp S hp site f (opds G env args)
  | .callv site f args => match opd G env f with
    | .fn k caps => callOp S hp site k (opds G env args ++ caps)
    | _ => none
  | .chk x => match opd G env x with
    | .ptr r o => some ⟨.ptr r o, [], []⟩
    | .rp n cs => some ⟨.rp n cs, [], []⟩
    | .fn f cs => some ⟨.fn f cs, [], []⟩
    | _ => none
  | .min2 x y => match opd G env x, opd G env y with
    | .pl (.int k a), .pl (.int _ b) => some ⟨.pl (.int k ((match decide (b < a) with | true => (b) | false => (a)))), [], []⟩
    | _, _ => none
  | .max2 x y => match opd G env x, opd G env y with
    | .pl (.int k a), .pl (.int _ b) => some ⟨.pl (.int k ((match decide (a < b) with | true => (b) | false => (a)))), [], []⟩
    | _, _ => none
  | .mset r => (match freshAt hp [r] with | true => (some ⟨.mp r, [(r, .set [])], [r]⟩) | false => (none))
  | .mput m k => match opd G env m, asI (opd G env k) with
    | .mp r, some (.i64, n) => match lkH hp r with
      | some (.set ks) => some ⟨.undef, [(r, .set (insK ks n))], [r]⟩
      | _ => none
    | _, _ => none
  | .srt m => match opd G env m with
    | .mp r => match lkH hp r with
      | some (.set ks) => (match decide (ks.length < 2 ^ 32) with | true => (some ⟨.pl (.sl 1 (rowsK (sortK ks))), [], [r]⟩) | false => (none))
      | _ => none
    | _ => none
def setE (env : List (Nat × AV)) : Option Nat → AV → List (Nat × AV)
  | some d, v => (d, v) :: env
  | none, _ => env
def wantedR (env : List (Nat × AV)) : Option (Nat × Bool) → Option Bool
  | none => some true
  | some (t, b) => match lkE env t with
    | .pl (.bool x) => some (x == b)
    | .tup [] => some false
    | _ => none
def keysH : Heap → List Nat
  | [] => []
  | (r, _) :: l => r :: keysH l
def stepRO (S : Sp) (G : Nat → AV) (o : RO) (s : St) : Option (St × Foot) :=
  match wantedR s.env o.gd with
  | some true => match stepOp S G s.env s.hp o.op with
    | some r => some (⟨setE s.env o.d r.v, r.upd ++ s.hp⟩, (r.rd, keysH r.upd))
    | none => none
  | some false => some (⟨setE s.env o.d (.tup []), s.hp⟩, ([], []))
  | none => none
def runOps (S : Sp) (G : Nat → AV) : List RO → St → Option St
  | [], s => some s
  | o :: os, s => match stepRO S G o s with
    | some (s', _) => runOps S G os s'
    | none => none
def runDrw (S : Sp) (G : Nat → AV) : List RO → St → Option (St × List Foot)
  | [], s => some (s, [])
  | o :: os, s => match stepRO S G o s with
    | some (s', f) => match runDrw S G os s' with
      | some (s'', fs) => some (s'', f :: fs)
      | none => none
    | none => none
def apartL (a b : List Nat) : Bool :=
  match a with
  | [] => true
  | r :: l => !memN b r && apartL l b
def apartF (f g : Foot) : Bool := apartL f.2 g.1 && apartL f.2 g.2 && apartL f.1 g.2
def apartAll (mask : Nat) (g : Foot) : Nat → List Foot → Bool
  | _, [] => true
  | i, f :: fs => (Nat.testBit mask i || apartF f g) && apartAll mask g (i + 1) fs
def drwOk : List Foot → List Nat → List Foot → Bool
  | _, [], [] => true
  | done, m :: ms, f :: fs => apartAll m f 0 done && drwOk (done ++ [f]) ms fs
  | _, _, _ => false
def rnKeep (hp : Heap) (keep : List Nat) : Rn where
  p r := (match memN keep r with | true => ((match lkH hp r with
                                                                                                                            | some _ => some r
                                                                                                                            | none => none)) | false => (none))
  o r v := match curV hp r with
    | some v' => (match (v' == v) && memN keep r with | true => (some (r, 0)) | false => (none))
    | none => none
def canonE (m : Rn) (env : List (Nat × AV)) : List Nat → List (Nat × AV)
  | [] => []
  | t :: ts => (t, ren m (lkE env t)) :: canonE m env ts
def canonH (m : Rn) (hp : Heap) : List Nat → Heap
  | [] => []
  | r :: rs => match lkH hp r with
    | some o => (r, renO m 0 o) :: canonH m hp rs
    | none => canonH m hp rs
def canon (live keep : List Nat) (s : St) : St :=
  ⟨canonE (rnKeep s.hp keep) s.env live, canonH (rnKeep s.hp keep) s.hp keep⟩
def ev (S : Sp) (G : Nat → AV) : RC → St → Option (Ex × St)
  | .skip, s => some (.normal, s)
  | .reg ops, s => match runOps S G ops s with
    | some s' => some (.normal, s')
    | none => none
  | .drw ops masks, s => match runDrw S G ops s with
    | some (s', fs) => (match drwOk [] masks fs with | true => (some (.normal, s')) | false => (none))
    | none => none
  | .seq a b, s => match ev S G a s with
    | some (.normal, s') => ev S G b s'
    | r => r
  | .cond c a b, s => match opd G s.env c with
    | .pl (.bool x) => (match x with | true => (ev S G a s) | false => (ev S G b s))
    | _ => none
  | .block id b, s => match ev S G b s with
    | some (.exit id', s') => (match (id' == id) with | true => (some (.normal, s')) | false => (some (.exit id', s')))
    | r => r
  | .loop live keep b, s => S.loop (.loop live keep b) s
  | .exit id, s => some (.exit id, s)
  | .ret, s => some (.ret, s)
def loopStep (S : Sp) (G : Nat → AV) : RC → St → Option (Ex × St)
  | .loop live keep b, s => match ev S G b (canon live keep s) with
    | some (.normal, s') => S.loop (.loop live keep b) s'
    | some (e, s') => some (e, canon live keep s')
    | none => none
  | _, _ => none
def initE : Nat → List AV → List (Nat × AV)
  | _, [] => []
  | i, v :: vs => (i, v) :: initE (i + 1) vs
def initH : Nat → List Obj → Heap
  | _, [] => []
  | i, o :: os => (i, o) :: initH (i + 1) os
def resV (s : St) : RRes → Option AV
  | .tmp t => some (lkE s.env t)
  | .cell t n ag => match lkE s.env t with
    | .ptr r off => match lkH s.hp r with
      | some (.box m v) => partOf v m off n ag
      | _ => none
    | _ => none
def resVs (s : St) : List RRes → Option (List AV)
  | [] => some []
  | r :: rs => match resV s r, resVs s rs with
    | some v, some vs => some (frz s.hp v :: vs)
    | _, _ => none
def rangeN : Nat → Nat → List Nat
  | _, 0 => []
  | i, n + 1 => i :: rangeN (i + 1) n
def startsAt : Nat → Nat → List Nat → Bool
  | _, 0, _ => true
  | i, n + 1, r :: l => (r == i) && startsAt (i + 1) n l
  | _, _ + 1, [] => false
def oneOf : List AV → AV
  | [v] => v
  | vs => .tup vs
def finish (k : Nat) (res : List RRes) (s : St) : Option (AV × List Obj) :=
  match resVs s res with
  | none => none
  | some vs =>
    match reach s.hp reachFuel (rangeN 0 k ++ ptrsL vs) [] with
    | none => none
    | some order =>
      let m := rnIn s.hp order
      (match distinctN order && startsAt 0 k order with | true => (match getOs s.hp m order with
                                                                                                                                | none => none
                                                                                                                                | some objs => some (oneOf (renL m vs), objs)) | false => (none))
def runBody (S : Sp) (G : Nat → AV) (f : RFunc) (args : List AV) (h : List Obj) : Option (AV × List Obj) :=
  (match (args.length == f.params) with | true => (match ev S G f.body ⟨initE 0 args, initH 0 h⟩ with
                                                                                                                            | some (.normal, s) => finish h.length f.res s
                                                                                                                            | some (.ret, s) => finish h.length f.res s
                                                                                                                            | _ => none) | false => (none))
end Qk
end Eng

namespace Eng
open Go
theorem q_ptrsL : @Qk.ptrsL = @Eng.ptrsL := by kernel_rfl
theorem q_lkE : @Qk.lkE = @Eng.lkE := by
  have h1 : @Qk.lkE = @QP.lkE NB.fast := by kernel_rfl
  have h2 : @QP.lkE NB.std = @Eng.lkE := by kernel_rfl
  rw [h1, NB.same, h2]
theorem q_lkH : @Qk.lkH = @Eng.lkH := by
  have h1 : @Qk.lkH = @QP.lkH NB.fast := by kernel_rfl
  have h2 : @QP.lkH NB.std = @Eng.lkH := by kernel_rfl
  rw [h1, NB.same, h2]
theorem q_rowsOf : @Qk.rowsOf = @Eng.rowsOf := by
  have h1 : @Qk.rowsOf = @QP.rowsOf NB.fast := by kernel_rfl
  have h2 : @QP.rowsOf NB.std = @Eng.rowsOf := by kernel_rfl
  rw [h1, NB.same, h2]
theorem q_rdF : @Qk.rdF = @Eng.rdF := by kernel_rfl
theorem q_rdFs : @Qk.rdFs = @Eng.rdFs := by kernel_rfl
theorem q_frz : @Qk.frz = @Eng.frz := by
  have h1 : @Qk.frz = @QP.frz NB.fast := by kernel_rfl
  have h2 : @QP.frz NB.std = @Eng.frz := by kernel_rfl
  rw [h1, NB.same, h2]
theorem q_frzT : @Qk.frzT = @Eng.frzT := by
  have h1 : @Qk.frzT = @QP.frzT NB.fast := by kernel_rfl
  have h2 : @QP.frzT NB.std = @Eng.frzT := by kernel_rfl
  rw [h1, NB.same, h2]
theorem q_sizeAV : @Qk.sizeAV = @Eng.sizeAV := by kernel_rfl
theorem q_rowOf : @Qk.rowOf = @Eng.rowOf := by kernel_rfl
theorem q_stepRO : @Qk.stepRO = @Eng.stepRO := by
  have h1 : @Qk.stepRO = @QP.stepRO NB.fast := by kernel_rfl
  have h2 : @QP.stepRO NB.std = @Eng.stepRO := by kernel_rfl
  rw [h1, NB.same, h2]
theorem q_canon : @Qk.canon = @Eng.canon := by
  have h1 : @Qk.canon = @QP.canon NB.fast := by kernel_rfl
  have h2 : @QP.canon NB.std = @Eng.canon := by kernel_rfl
  rw [h1, NB.same, h2]
theorem q_finish : @Qk.finish = @Eng.finish := by
  have h1 : @Qk.finish = @QP.finish NB.fast := by kernel_rfl
  have h2 : @QP.finish NB.std = @Eng.finish := by kernel_rfl
  rw [h1, NB.same, h2]
theorem q_drwOk : @Qk.drwOk = @Eng.drwOk := by
  have h1 : @Qk.drwOk = @QP.drwOk NB.fast := by kernel_rfl
  have h2 : @QP.drwOk NB.std = @Eng.drwOk := by kernel_rfl
  rw [h1, NB.same, h2]
theorem q_opd : @Qk.opd = @Eng.opd := by
  have h1 : @Qk.opd = @QP.opd NB.fast := by kernel_rfl
  have h2 : @QP.opd NB.std = @Eng.opd := by kernel_rfl
  rw [h1, NB.same, h2]
theorem q_opds : @Qk.opds = @Eng.opds := by
  have h1 : @Qk.opds = @QP.opds NB.fast := by kernel_rfl
  have h2 : @QP.opds NB.std = @Eng.opds := by kernel_rfl
  rw [h1, NB.same, h2]
theorem q_optI : @Qk.optI = @Eng.optI := by
  have h1 : @Qk.optI = @QP.optI NB.fast := by kernel_rfl
  have h2 : @QP.optI NB.std = @Eng.optI := by kernel_rfl
  rw [h1, NB.same, h2]
theorem q_slcEv : @Qk.slcEv = @Eng.slcEv := by kernel_rfl
theorem q_reach : @Qk.reach = @Eng.reach := by
  have h1 : @Qk.reach = @QP.reach NB.fast := by kernel_rfl
  have h2 : @QP.reach NB.std = @Eng.reach := by kernel_rfl
  rw [h1, NB.same, h2]
theorem q_getOs : @Qk.getOs = @Eng.getOs := by
  have h1 : @Qk.getOs = @QP.getOs NB.fast := by kernel_rfl
  have h2 : @QP.getOs NB.std = @Eng.getOs := by kernel_rfl
  rw [h1, NB.same, h2]
theorem q_rnIn : @Qk.rnIn = @Eng.rnIn := by
  have h1 : @Qk.rnIn = @QP.rnIn NB.fast := by kernel_rfl
  have h2 : @QP.rnIn NB.std = @Eng.rnIn := by kernel_rfl
  rw [h1, NB.same, h2]
theorem q_rnBack : @Qk.rnBack = @Eng.rnBack := by
  have h1 : @Qk.rnBack = @QP.rnBack NB.fast := by kernel_rfl
  have h2 : @QP.rnBack NB.std = @Eng.rnBack := by kernel_rfl
  rw [h1, NB.same, h2]
theorem q_updBack : @Qk.updBack = @Eng.updBack := by
  have h1 : @Qk.updBack = @QP.updBack NB.fast := by kernel_rfl
  have h2 : @QP.updBack NB.std = @Eng.updBack := by kernel_rfl
  rw [h1, NB.same, h2]
theorem q_newAts : @Qk.newAts = @Eng.newAts := by kernel_rfl
theorem q_freshAt : @Qk.freshAt = @Eng.freshAt := by
  have h1 : @Qk.freshAt = @QP.freshAt NB.fast := by kernel_rfl
  have h2 : @QP.freshAt NB.std = @Eng.freshAt := by kernel_rfl
  rw [h1, NB.same, h2]
theorem q_ren : @Qk.ren = @Eng.ren := by kernel_rfl
theorem q_renL : @Qk.renL = @Eng.renL := by kernel_rfl
theorem q_distinctN : @Qk.distinctN = @Eng.distinctN := by
  have h1 : @Qk.distinctN = @QP.distinctN NB.fast := by kernel_rfl
  have h2 : @QP.distinctN NB.std = @Eng.distinctN := by kernel_rfl
  rw [h1, NB.same, h2]
end Eng

namespace Eng
open Go
def DPS (S : Sp) (G : Nat → AV) (ops : List RO) (s : St) (acc : List Foot) (K : St → List Foot → Prop) : Prop := ∃ s1 fs, runDrw S G ops s = some (s1, fs) ∧ K s1 (acc.reverse ++ fs)
def WP (S : Sp) (G : Nat → AV) (c : RC) (s : St) (Q : Ex → St → Prop) : Prop := ∃ e s1, ev S G c s = some (e, s1) ∧ Q e s1
def KR (Q : Ex → St → Prop) (s : St) (_ : List Foot) : Prop := Q .normal s
def KD (masks : List Nat) (Q : Ex → St → Prop) (s : St) (fs : List Foot) : Prop := drwOk [] masks fs = true ∧ Q .normal s
def updE : List (Nat × AV) → Nat → AV → List (Nat × AV)
  | [], _, _ => []
  | (k, v) :: l, t, x => bif Nat.beq k t then (k, x) :: l else (k, v) :: updE l t x
def updEs (l : List (Nat × AV)) : List (Nat × AV) → List (Nat × AV)
  | [] => l
  | (k, v) :: u => updEs (updE l k v) u
def updH : Heap → Nat → Obj → Heap
  | [], _, _ => []
  | (k, v) :: l, t, x => bif Nat.beq k t then (k, x) :: l else (k, v) :: updH l t x
def updHs (l : Heap) : Heap → Heap
  | [] => l
  | (k, v) :: u => updHs (updH l k v) u
theorem wrap64 {n : Int} (h1 : -9223372036854775808 ≤ n) (h2 : n ≤ 9223372036854775807) : IntKind.wrap .i64 n = n := by
  simp [IntKind.wrap, IntKind.signed, IntKind.bits]
  omega
section
variable {S : Sp} {G : Nat → AV}
theorem dps_nilR {s acc Q} (h : Q .normal s) : DPS S G [] s acc (KR Q) := ⟨s, [], rfl, h⟩
theorem dps_nilD {s acc masks Q} (hd : drwOk [] masks acc.reverse = true) (h : Q .normal s) : DPS S G [] s acc (KD masks Q) := ⟨s, [], rfl, by simpa using hd, h⟩
theorem dps_cons {o os s s1 f acc K} (h : stepRO S G o s = some (s1, f)) (h2 : DPS S G os s1 (f :: acc) K) : DPS S G (o :: os) s acc K := by
  obtain ⟨s2, fs, a, b⟩ := h2
  exact ⟨s2, f :: fs, by simp only [runDrw, h, a], by simpa using b⟩
theorem dps_on {d op t b os E H acc K} (ht : lkE E t = .pl (.bool b)) (h1 : DPS S G (.a d op :: os) ⟨E, H⟩ acc K) : DPS S G (.q d op t b :: os) ⟨E, H⟩ acc K := by
  obtain ⟨s2, fs, a, c⟩ := h1
  refine ⟨s2, fs, ?_, c⟩
  have hs : stepRO S G (.q d op t b) ⟨E, H⟩ = stepRO S G (.a d op) ⟨E, H⟩ := by
    unfold stepRO
    simp only [RO.gd, RO.d, RO.op, wantedR, ht, beq_self_eq_true]
  simp only [runDrw, hs] at a ⊢
  exact a
theorem dps_off {d op t b b' os E H acc K} (ht : lkE E t = .pl (.bool b')) (hb : b' = !b) (h1 : DPS S G os ⟨(d, .tup []) :: E, H⟩ (([], []) :: acc) K) : DPS S G (.q d op t b :: os) ⟨E, H⟩ acc K := by
  subst hb
  refine dps_cons (s1 := ⟨(d, .tup []) :: E, H⟩) (f := ([], [])) ?_ h1
  unfold stepRO
  simp only [RO.gd, RO.d, wantedR, ht]
  cases b <;> rfl
theorem dps_undef {d op t b os E H acc K} (ht : lkE E t = .tup []) (h1 : DPS S G os ⟨(d, .tup []) :: E, H⟩ (([], []) :: acc) K) : DPS S G (.q d op t b :: os) ⟨E, H⟩ acc K := by
  refine dps_cons (s1 := ⟨(d, .tup []) :: E, H⟩) (f := ([], [])) ?_ h1
  unfold stepRO
  simp only [RO.gd, RO.d, wantedR, ht]
  rfl
theorem wpreg {ops s Q} (h : DPS S G ops s [] (KR Q)) : WP S G (.reg ops) s Q := by
  obtain ⟨s1, fs, a, b⟩ := h
  have key : ∀ (ops : List RO) (s s1 : St) (fs : List Foot), runDrw S G ops s = some (s1, fs) → runOps S G ops s = some s1 := by
    intro ops
    induction ops with
    | nil => intro s s1 fs h; simp only [runDrw, Option.some.injEq, Prod.mk.injEq] at h; simp [runOps, h.1]
    | cons o os ih =>
      intro s s1 fs h
      simp only [runDrw] at h
      split at h
      · rename_i s2 f h1
        split at h
        · rename_i s3 fs3 h2
          simp only [Option.some.injEq, Prod.mk.injEq] at h
          simp only [runOps, h1]
          rw [← h.1]
          exact ih _ _ _ h2
        · simp at h
      · simp at h
  exact ⟨.normal, s1, by simp only [ev, key _ _ _ _ a], b⟩
theorem wpdrw {ops masks s Q} (h : DPS S G ops s [] (KD masks Q)) : WP S G (.drw ops masks) s Q := by
  obtain ⟨s1, fs, a, b, c⟩ := h
  have b' : drwOk [] masks fs = true := by simpa using b
  exact ⟨.normal, s1, by simp only [ev, a, b', cond_true], c⟩
theorem wpskip {s Q} (h : Q .normal s) : WP S G .skip s Q := ⟨.normal, s, rfl, h⟩
theorem wpret {s Q} (h : Q .ret s) : WP S G .ret s Q := ⟨.ret, s, rfl, h⟩
theorem wpexit {id s Q} (h : Q (.exit id) s) : WP S G (.exit id) s Q := ⟨.exit id, s, rfl, h⟩
def after (S : Sp) (G : Nat → AV) (b : RC) (Q : Ex → St → Prop) (e : Ex) (s : St) : Prop := match e with
  | .normal => WP S G b s Q
  | e => Q e s
theorem wpseq {a b s Q} (h : WP S G a s (after S G b Q)) : WP S G (.seq a b) s Q := by
  obtain ⟨e, s1, h1, h2⟩ := h
  cases e with
  | normal => obtain ⟨e', s2, h3, h4⟩ := h2; exact ⟨e', s2, by simp only [ev, h1]; exact h3, h4⟩
  | exit id => exact ⟨.exit id, s1, by simp only [ev, h1], h2⟩
  | ret => exact ⟨.ret, s1, by simp only [ev, h1], h2⟩
theorem after_normal {b Q s} (h : WP S G b s Q) : after S G b Q .normal s := h
theorem after_ret {b Q s} (h : Q .ret s) : after S G b Q .ret s := h
theorem after_exit {b Q id s} (h : Q (.exit id) s) : after S G b Q (.exit id) s := h
def leave (id : Nat) (Q : Ex → St → Prop) (e : Ex) (s : St) : Prop := match e with
  | .exit id' => bif Nat.beq id' id then Q .normal s else Q (.exit id') s
  | e => Q e s
theorem wpblock {id b s Q} (h : WP S G b s (leave id Q)) : WP S G (.block id b) s Q := by
  obtain ⟨e, s1, h1, h2⟩ := h
  cases e with
  | normal => exact ⟨.normal, s1, by simp only [ev, h1], h2⟩
  | ret => exact ⟨.ret, s1, by simp only [ev, h1], h2⟩
  | exit id' =>
    unfold leave at h2
    dsimp only at h2
    cases hb : Nat.beq id' id with
    | true => rw [hb] at h2; exact ⟨.normal, s1, by simp only [ev, h1, hb, cond_true], h2⟩
    | false => rw [hb] at h2; exact ⟨.exit id', s1, by simp only [ev, h1, hb, cond_false], h2⟩
theorem leave_normal {id Q s} (h : Q .normal s) : leave id Q .normal s := h
theorem leave_ret {id Q s} (h : Q .ret s) : leave id Q .ret s := h
theorem leave_exit {id Q s} (h : Q .normal s) : leave id Q (.exit id) s := by
  unfold leave
  have : Nat.beq id id = true := by simp
  simp only [this, cond_true]; exact h
theorem leave_other {id id' Q s} (hn : Nat.beq id' id = false) (h : Q (.exit id') s) : leave id Q (.exit id') s := by
  unfold leave
  simp only [hn, cond_false]; exact h
theorem wpcondT {c a b s Q} (h : opd G s.env c = .pl (.bool true)) (h1 : WP S G a s Q) : WP S G (.cond c a b) s Q := by
  obtain ⟨e, s2, b, c⟩ := h1
  exact ⟨e, s2, by simp only [ev, h]; exact b, c⟩
theorem wpcondF {c a b s Q} (h : opd G s.env c = .pl (.bool false)) (h1 : WP S G b s Q) : WP S G (.cond c a b) s Q := by
  obtain ⟨e, s2, b, c⟩ := h1
  exact ⟨e, s2, by simp only [ev, h]; exact b, c⟩
theorem WP.mono {c s Q Q'} (h : WP S G c s Q) (hq : ∀ e s, Q e s → Q' e s) : WP S G c s Q' := by
  obtain ⟨e, s1, a, b⟩ := h
  exact ⟨e, s1, a, hq _ _ b⟩
def fin (res : List RRes) (k : Nat) (r : AV × List Obj) (e : Ex) (s : St) : Prop := match e with
  | .exit _ => False
  | _ => finish k res s = some r
theorem fin_ret0 {res k r s} (h : finish k res s = some r) : fin res k r .ret s := h
theorem fin_normal0 {res k r s} (h : finish k res s = some r) : fin res k r .normal s := h
theorem body_of {p : Nat} {res : List RRes} {body : RC} {args h r} (hp : Nat.beq args.length p = true) (hw : WP S G body ⟨initE 0 args, initH 0 h⟩ (fin res h.length r)) : runBody S G ⟨p, res, body⟩ args h = some r := by
  obtain ⟨e, s1, a, b⟩ := hw
  unfold runBody
  rw [hp, a]
  cases e with
  | normal => exact b
  | ret => exact b
  | exit id => exact b.elim
def plainOp : RO → Bool
  | .q .. => false
  | .n (.store ..) => true
  | .a _ op => match op with
    | .mov _ | .nilb .. | .pick .. | .box .. | .alloc .. | .load .. | .fadd .. | .fld .. | .build .. | .bsl .. | .bslo .. | .binb .. | .un .not _ | .lens _ | .ext .. | .mkf .. | .chk _ => true
    | _ => false
  | _ => false
theorem dps_gen {o os s s1 f acc K} (_ : plainOp o = true) (h : stepRO S G o s = some (s1, f)) (h2 : DPS S G os s1 (f :: acc) K) : DPS S G (o :: os) s acc K := dps_cons h h2
theorem dps_a {d op os E H r acc K} (h : stepOp S G E H op = some r) (h2 : DPS S G os ⟨(d, r.v) :: E, r.upd ++ H⟩ ((r.rd, keysH r.upd) :: acc) K) : DPS S G (.a d op :: os) ⟨E, H⟩ acc K :=
  dps_cons (s1 := ⟨(d, r.v) :: E, r.upd ++ H⟩) (f := (r.rd, keysH r.upd)) (by unfold stepRO; simp only [RO.gd, wantedR, RO.op, h]; rfl) h2
theorem dps_n {op os E H r acc K} (h : stepOp S G E H op = some r) (h2 : DPS S G os ⟨E, r.upd ++ H⟩ ((r.rd, keysH r.upd) :: acc) K) : DPS S G (.n op :: os) ⟨E, H⟩ acc K :=
  dps_cons (s1 := ⟨E, r.upd ++ H⟩) (f := (r.rd, keysH r.upd)) (by unfold stepRO; simp only [RO.gd, wantedR, RO.op, h]; rfl) h2
theorem dps_eqlT {d x y os E H k a b acc K} (h1 : opd G E x = .pl (.int k a)) (h2 : opd G E y = .pl (.int k b)) (hp : a = b)
    (h : DPS S G os ⟨(d, .pl (.bool true)) :: E, H⟩ (([], []) :: acc) K) : DPS S G (.a d (.bin .eql x y) :: os) ⟨E, H⟩ acc K := by
  refine dps_a (r := ⟨.pl (.bool true), [], []⟩) ?_ h
  have e : (k == k) = true := by cases k <;> rfl
  have e2 : (a == b) = true := by simpa using hp
  simp only [stepOp, h1, h2, binEv, e, cond_true, e2]
theorem dps_eqlF {d x y os E H k a b acc K} (h1 : opd G E x = .pl (.int k a)) (h2 : opd G E y = .pl (.int k b)) (hp : ¬ (a = b))
    (h : DPS S G os ⟨(d, .pl (.bool false)) :: E, H⟩ (([], []) :: acc) K) : DPS S G (.a d (.bin .eql x y) :: os) ⟨E, H⟩ acc K := by
  refine dps_a (r := ⟨.pl (.bool false), [], []⟩) ?_ h
  have e : (k == k) = true := by cases k <;> rfl
  have e2 : (a == b) = false := by simpa using hp
  simp only [stepOp, h1, h2, binEv, e, cond_true, e2]
theorem dps_eql {d x y os E H k a b acc K} (h1 : opd G E x = .pl (.int k a)) (h2 : opd G E y = .pl (.int k b))
    (ht : a = b → DPS S G os ⟨(d, .pl (.bool true)) :: E, H⟩ (([], []) :: acc) K) (hf : ¬ (a = b) → DPS S G os ⟨(d, .pl (.bool false)) :: E, H⟩ (([], []) :: acc) K) : DPS S G (.a d (.bin .eql x y) :: os) ⟨E, H⟩ acc K := by
  by_cases hp : a = b
  · exact dps_eqlT h1 h2 hp (ht hp)
  · exact dps_eqlF h1 h2 hp (hf hp)
theorem dps_neqT {d x y os E H k a b acc K} (h1 : opd G E x = .pl (.int k a)) (h2 : opd G E y = .pl (.int k b)) (hp : a ≠ b)
    (h : DPS S G os ⟨(d, .pl (.bool true)) :: E, H⟩ (([], []) :: acc) K) : DPS S G (.a d (.bin .neq x y) :: os) ⟨E, H⟩ acc K := by
  refine dps_a (r := ⟨.pl (.bool true), [], []⟩) ?_ h
  have e : (k == k) = true := by cases k <;> rfl
  have e2 : (a != b) = true := by simpa using hp
  simp only [stepOp, h1, h2, binEv, e, cond_true, e2]
theorem dps_neqF {d x y os E H k a b acc K} (h1 : opd G E x = .pl (.int k a)) (h2 : opd G E y = .pl (.int k b)) (hp : ¬ (a ≠ b))
    (h : DPS S G os ⟨(d, .pl (.bool false)) :: E, H⟩ (([], []) :: acc) K) : DPS S G (.a d (.bin .neq x y) :: os) ⟨E, H⟩ acc K := by
  refine dps_a (r := ⟨.pl (.bool false), [], []⟩) ?_ h
  have e : (k == k) = true := by cases k <;> rfl
  have e2 : (a != b) = false := by simpa using hp
  simp only [stepOp, h1, h2, binEv, e, cond_true, e2]
theorem dps_neq {d x y os E H k a b acc K} (h1 : opd G E x = .pl (.int k a)) (h2 : opd G E y = .pl (.int k b))
    (ht : a ≠ b → DPS S G os ⟨(d, .pl (.bool true)) :: E, H⟩ (([], []) :: acc) K) (hf : ¬ (a ≠ b) → DPS S G os ⟨(d, .pl (.bool false)) :: E, H⟩ (([], []) :: acc) K) : DPS S G (.a d (.bin .neq x y) :: os) ⟨E, H⟩ acc K := by
  by_cases hp : a ≠ b
  · exact dps_neqT h1 h2 hp (ht hp)
  · exact dps_neqF h1 h2 hp (hf hp)
theorem dps_lssT {d x y os E H k a b acc K} (h1 : opd G E x = .pl (.int k a)) (h2 : opd G E y = .pl (.int k b)) (hp : a < b)
    (h : DPS S G os ⟨(d, .pl (.bool true)) :: E, H⟩ (([], []) :: acc) K) : DPS S G (.a d (.bin .lss x y) :: os) ⟨E, H⟩ acc K := by
  refine dps_a (r := ⟨.pl (.bool true), [], []⟩) ?_ h
  have e : (k == k) = true := by cases k <;> rfl
  have e2 : (decide (a < b)) = true := by simpa using hp
  simp only [stepOp, h1, h2, binEv, e, cond_true, e2]
theorem dps_lssF {d x y os E H k a b acc K} (h1 : opd G E x = .pl (.int k a)) (h2 : opd G E y = .pl (.int k b)) (hp : ¬ (a < b))
    (h : DPS S G os ⟨(d, .pl (.bool false)) :: E, H⟩ (([], []) :: acc) K) : DPS S G (.a d (.bin .lss x y) :: os) ⟨E, H⟩ acc K := by
  refine dps_a (r := ⟨.pl (.bool false), [], []⟩) ?_ h
  have e : (k == k) = true := by cases k <;> rfl
  have e2 : (decide (a < b)) = false := by simpa using hp
  simp only [stepOp, h1, h2, binEv, e, cond_true, e2]
theorem dps_lss {d x y os E H k a b acc K} (h1 : opd G E x = .pl (.int k a)) (h2 : opd G E y = .pl (.int k b))
    (ht : a < b → DPS S G os ⟨(d, .pl (.bool true)) :: E, H⟩ (([], []) :: acc) K) (hf : ¬ (a < b) → DPS S G os ⟨(d, .pl (.bool false)) :: E, H⟩ (([], []) :: acc) K) : DPS S G (.a d (.bin .lss x y) :: os) ⟨E, H⟩ acc K := by
  by_cases hp : a < b
  · exact dps_lssT h1 h2 hp (ht hp)
  · exact dps_lssF h1 h2 hp (hf hp)
theorem dps_leqT {d x y os E H k a b acc K} (h1 : opd G E x = .pl (.int k a)) (h2 : opd G E y = .pl (.int k b)) (hp : a ≤ b)
    (h : DPS S G os ⟨(d, .pl (.bool true)) :: E, H⟩ (([], []) :: acc) K) : DPS S G (.a d (.bin .leq x y) :: os) ⟨E, H⟩ acc K := by
  refine dps_a (r := ⟨.pl (.bool true), [], []⟩) ?_ h
  have e : (k == k) = true := by cases k <;> rfl
  have e2 : (decide (a ≤ b)) = true := by simpa using hp
  simp only [stepOp, h1, h2, binEv, e, cond_true, e2]
theorem dps_leqF {d x y os E H k a b acc K} (h1 : opd G E x = .pl (.int k a)) (h2 : opd G E y = .pl (.int k b)) (hp : ¬ (a ≤ b))
    (h : DPS S G os ⟨(d, .pl (.bool false)) :: E, H⟩ (([], []) :: acc) K) : DPS S G (.a d (.bin .leq x y) :: os) ⟨E, H⟩ acc K := by
  refine dps_a (r := ⟨.pl (.bool false), [], []⟩) ?_ h
  have e : (k == k) = true := by cases k <;> rfl
  have e2 : (decide (a ≤ b)) = false := by simpa using hp
  simp only [stepOp, h1, h2, binEv, e, cond_true, e2]
theorem dps_leq {d x y os E H k a b acc K} (h1 : opd G E x = .pl (.int k a)) (h2 : opd G E y = .pl (.int k b))
    (ht : a ≤ b → DPS S G os ⟨(d, .pl (.bool true)) :: E, H⟩ (([], []) :: acc) K) (hf : ¬ (a ≤ b) → DPS S G os ⟨(d, .pl (.bool false)) :: E, H⟩ (([], []) :: acc) K) : DPS S G (.a d (.bin .leq x y) :: os) ⟨E, H⟩ acc K := by
  by_cases hp : a ≤ b
  · exact dps_leqT h1 h2 hp (ht hp)
  · exact dps_leqF h1 h2 hp (hf hp)
theorem dps_gtrT {d x y os E H k a b acc K} (h1 : opd G E x = .pl (.int k a)) (h2 : opd G E y = .pl (.int k b)) (hp : b < a)
    (h : DPS S G os ⟨(d, .pl (.bool true)) :: E, H⟩ (([], []) :: acc) K) : DPS S G (.a d (.bin .gtr x y) :: os) ⟨E, H⟩ acc K := by
  refine dps_a (r := ⟨.pl (.bool true), [], []⟩) ?_ h
  have e : (k == k) = true := by cases k <;> rfl
  have e2 : (decide (a > b)) = true := by simpa using hp
  simp only [stepOp, h1, h2, binEv, e, cond_true, e2]
theorem dps_gtrF {d x y os E H k a b acc K} (h1 : opd G E x = .pl (.int k a)) (h2 : opd G E y = .pl (.int k b)) (hp : ¬ (b < a))
    (h : DPS S G os ⟨(d, .pl (.bool false)) :: E, H⟩ (([], []) :: acc) K) : DPS S G (.a d (.bin .gtr x y) :: os) ⟨E, H⟩ acc K := by
  refine dps_a (r := ⟨.pl (.bool false), [], []⟩) ?_ h
  have e : (k == k) = true := by cases k <;> rfl
  have e2 : (decide (a > b)) = false := by simpa using hp
  simp only [stepOp, h1, h2, binEv, e, cond_true, e2]
theorem dps_gtr {d x y os E H k a b acc K} (h1 : opd G E x = .pl (.int k a)) (h2 : opd G E y = .pl (.int k b))
    (ht : b < a → DPS S G os ⟨(d, .pl (.bool true)) :: E, H⟩ (([], []) :: acc) K) (hf : ¬ (b < a) → DPS S G os ⟨(d, .pl (.bool false)) :: E, H⟩ (([], []) :: acc) K) : DPS S G (.a d (.bin .gtr x y) :: os) ⟨E, H⟩ acc K := by
  by_cases hp : b < a
  · exact dps_gtrT h1 h2 hp (ht hp)
  · exact dps_gtrF h1 h2 hp (hf hp)
theorem dps_geqT {d x y os E H k a b acc K} (h1 : opd G E x = .pl (.int k a)) (h2 : opd G E y = .pl (.int k b)) (hp : b ≤ a)
    (h : DPS S G os ⟨(d, .pl (.bool true)) :: E, H⟩ (([], []) :: acc) K) : DPS S G (.a d (.bin .geq x y) :: os) ⟨E, H⟩ acc K := by
  refine dps_a (r := ⟨.pl (.bool true), [], []⟩) ?_ h
  have e : (k == k) = true := by cases k <;> rfl
  have e2 : (decide (a ≥ b)) = true := by simpa using hp
  simp only [stepOp, h1, h2, binEv, e, cond_true, e2]
theorem dps_geqF {d x y os E H k a b acc K} (h1 : opd G E x = .pl (.int k a)) (h2 : opd G E y = .pl (.int k b)) (hp : ¬ (b ≤ a))
    (h : DPS S G os ⟨(d, .pl (.bool false)) :: E, H⟩ (([], []) :: acc) K) : DPS S G (.a d (.bin .geq x y) :: os) ⟨E, H⟩ acc K := by
  refine dps_a (r := ⟨.pl (.bool false), [], []⟩) ?_ h
  have e : (k == k) = true := by cases k <;> rfl
  have e2 : (decide (a ≥ b)) = false := by simpa using hp
  simp only [stepOp, h1, h2, binEv, e, cond_true, e2]
theorem dps_geq {d x y os E H k a b acc K} (h1 : opd G E x = .pl (.int k a)) (h2 : opd G E y = .pl (.int k b))
    (ht : b ≤ a → DPS S G os ⟨(d, .pl (.bool true)) :: E, H⟩ (([], []) :: acc) K) (hf : ¬ (b ≤ a) → DPS S G os ⟨(d, .pl (.bool false)) :: E, H⟩ (([], []) :: acc) K) : DPS S G (.a d (.bin .geq x y) :: os) ⟨E, H⟩ acc K := by
  by_cases hp : b ≤ a
  · exact dps_geqT h1 h2 hp (ht hp)
  · exact dps_geqF h1 h2 hp (hf hp)
theorem dps_add {d x y os E H k a b acc K} (h1 : opd G E x = .pl (.int k a)) (h2 : opd G E y = .pl (.int k b)) (hr : IntKind.wrap k (a + b) = a + b)
    (h : ∀ z, z = a + b → DPS S G os ⟨(d, .pl (.int k z)) :: E, H⟩ (([], []) :: acc) K) : DPS S G (.a d (.bin .add x y) :: os) ⟨E, H⟩ acc K := by
  refine dps_a (r := ⟨.pl (.int k (a + b)), [], []⟩) ?_ (h _ rfl)
  have e : (k == k) = true := by cases k <;> rfl
  simp only [stepOp, h1, h2, binEv, e, cond_true, hr]
theorem dps_sub {d x y os E H k a b acc K} (h1 : opd G E x = .pl (.int k a)) (h2 : opd G E y = .pl (.int k b)) (hr : IntKind.wrap k (a - b) = a - b)
    (h : ∀ z, z = a - b → DPS S G os ⟨(d, .pl (.int k z)) :: E, H⟩ (([], []) :: acc) K) : DPS S G (.a d (.bin .sub x y) :: os) ⟨E, H⟩ acc K := by
  refine dps_a (r := ⟨.pl (.int k (a - b)), [], []⟩) ?_ (h _ rfl)
  have e : (k == k) = true := by cases k <;> rfl
  simp only [stepOp, h1, h2, binEv, e, cond_true, hr]
theorem dps_mul {d x y os E H k a b acc K} (h1 : opd G E x = .pl (.int k a)) (h2 : opd G E y = .pl (.int k b)) (hr : IntKind.wrap k (a * b) = a * b)
    (h : ∀ z, z = a * b → DPS S G os ⟨(d, .pl (.int k z)) :: E, H⟩ (([], []) :: acc) K) : DPS S G (.a d (.bin .mul x y) :: os) ⟨E, H⟩ acc K := by
  refine dps_a (r := ⟨.pl (.int k (a * b)), [], []⟩) ?_ (h _ rfl)
  have e : (k == k) = true := by cases k <;> rfl
  simp only [stepOp, h1, h2, binEv, e, cond_true, hr]
theorem dps_rem {d x y os E H k a b acc K} (h1 : opd G E x = .pl (.int k a)) (h2 : opd G E y = .pl (.int k b)) (hb : b ≠ 0)
    (h : ∀ z, z = a.tmod b → DPS S G os ⟨(d, .pl (.int k z)) :: E, H⟩ (([], []) :: acc) K) : DPS S G (.a d (.bin .rem x y) :: os) ⟨E, H⟩ acc K := by
  refine dps_a (r := ⟨.pl (.int k (a.tmod b)), [], []⟩) ?_ (h _ rfl)
  have e : (k == k) = true := by cases k <;> rfl
  simp only [stepOp, h1, h2, binEv, e, cond_true, decide_eq_false hb, cond_false]
theorem dps_min {d x y os E H k k' a b acc K} (h1 : opd G E x = .pl (.int k a)) (h2 : opd G E y = .pl (.int k' b))
    (h : ∀ z, z = (if b < a then b else a) → DPS S G os ⟨(d, .pl (.int k z)) :: E, H⟩ (([], []) :: acc) K) : DPS S G (.a d (.min2 x y) :: os) ⟨E, H⟩ acc K := by
  refine dps_a (r := ⟨.pl (.int k (if b < a then b else a)), [], []⟩) ?_ (h _ rfl)
  simp only [stepOp, h1, h2]
  by_cases e : b < a <;> simp [e]
theorem dps_max {d x y os E H k k' a b acc K} (h1 : opd G E x = .pl (.int k a)) (h2 : opd G E y = .pl (.int k' b))
    (h : ∀ z, z = (if a < b then b else a) → DPS S G os ⟨(d, .pl (.int k z)) :: E, H⟩ (([], []) :: acc) K) : DPS S G (.a d (.max2 x y) :: os) ⟨E, H⟩ acc K := by
  refine dps_a (r := ⟨.pl (.int k (if a < b then b else a)), [], []⟩) ?_ (h _ rfl)
  simp only [stepOp, h1, h2]
  by_cases e : a < b <;> simp [e]
theorem dps_len {d x os E H sz rows rd acc K} (h1 : rowsOf H (opd G E x) = some (sz, rows)) (hd : rdF (opd G E x) = rd)
    (h : ∀ z : Int, z = rows.length → DPS S G os ⟨(d, .pl (.int .i64 z)) :: E, H⟩ ((rd, []) :: acc) K) : DPS S G (.a d (.len x) :: os) ⟨E, H⟩ acc K := by
  refine dps_a (r := ⟨.pl (.int .i64 rows.length), [], rd⟩) ?_ (h _ rfl)
  simp only [stepOp, h1, hd]
theorem dps_iadd {d sz xs i os E H rows rd k n row acc K} (h1 : rowsOf H (opd G E xs) = some (sz, rows)) (hd : rdF (opd G E xs) = rd) (h2 : opd G E i = .pl (.int k n)) (hn : 0 ≤ n ∧ n < rows.length) (hr : rows.getD n.toNat [] = row)
    (h : DPS S G os ⟨(d, .rp sz row) :: E, H⟩ ((rd, []) :: acc) K) : DPS S G (.a d (.iadd sz xs i) :: os) ⟨E, H⟩ acc K := by
  refine dps_a (r := ⟨.rp sz row, [], rd⟩) ?_ h
  have e : Nat.beq sz sz = true := by simp
  simp only [stepOp]
  generalize hx : opd G E xs = X at h1 hd ⊢
  cases X with
  | own r v =>
    simp only [rowsOf] at h1
    split at h1
    · rename_i sz' rows' v' hl
      cases hb : Nat.beq v' v with
      | false => rw [hb] at h1; simp at h1
      | true =>
        rw [hb] at h1
        simp only [cond_true, Option.some.injEq, Prod.mk.injEq] at h1
        obtain ⟨rfl, rfl⟩ := h1
        simp only [rdF] at hd
        subst hd
        simp only [hl, h2, asI, hb, e, decide_eq_true hn.1, decide_eq_true hn.2, Bool.and_self, cond_true, hr]
    · simp at h1
  | _ => simp only [h1, h2, asI, e, decide_eq_true hn.1, decide_eq_true hn.2, Bool.and_self, cond_true, hr, hd]
theorem dps_iarr {d} {len sz : Nat} {a i os E H m cs k n row acc K} (h1 : opd G E a = .rp m cs) (h2 : opd G E i = .pl (.int k n)) (hn : 0 ≤ n ∧ n < len) (hm : Nat.ble (len * sz) m = true) (hr : cs.drop (n.toNat * sz) = row)
    (h : ∀ m', m' = m - n.toNat * sz → DPS S G os ⟨(d, .rp m' row) :: E, H⟩ (([], []) :: acc) K) : DPS S G (.a d (.iarr len sz a i) :: os) ⟨E, H⟩ acc K := by
  refine dps_a (r := ⟨.rp (m - n.toNat * sz) row, [], []⟩) ?_ (h _ rfl)
  simp only [stepOp, h1, h2, asI, decide_eq_true hn.1, decide_eq_true hn.2, hm, Bool.and_self, cond_true, hr]
theorem dps_app {d sz x y os E H r v rows ys rd acc K} (h1 : rowsOf H (opd G E y) = some (sz, ys)) (hd : rdF (opd G E y) = rd) (h2 : opd G E x = .own r v) (h3 : lkH H r = some (.buf sz rows v)) (hl : rows.length + ys.length < 2 ^ 32)
    (h : ∀ zs, zs = rows ++ ys → DPS S G os ⟨(d, .own r (v + 1)) :: E, (r, .buf sz zs (v + 1)) :: H⟩ ((r :: rd, [r]) :: acc) K) : DPS S G (.a d (.app sz x y) :: os) ⟨E, H⟩ acc K := by
  refine dps_a (r := ⟨.own r (v + 1), [(r, .buf sz (rows ++ ys) (v + 1))], r :: rd⟩) ?_ (h _ rfl)
  have e : ∀ n, Nat.beq n n = true := by simp
  simp only [stepOp, h1, h2, h3, e, decide_eq_true hl, Bool.and_self, cond_true, hd]
theorem dps_appx {d sz x y os E H rows ys rd acc K} (h1 : rowsOf H (opd G E y) = some (sz, ys)) (hd : rdF (opd G E y) = rd) (h2 : opd G E x = .ex sz rows) (hl : rows.length + ys.length < 2 ^ 32)
    (h : ∀ zs, zs = rows ++ ys → DPS S G os ⟨(d, .pl (.sl sz zs)) :: E, H⟩ ((rd, []) :: acc) K) : DPS S G (.a d (.app sz x y) :: os) ⟨E, H⟩ acc K := by
  refine dps_a (r := ⟨.pl (.sl sz (rows ++ ys)), [], rd⟩) ?_ (h _ rfl)
  have e : ∀ n, Nat.beq n n = true := by simp
  simp only [stepOp, h1, h2, e, decide_eq_true hl, Bool.and_self, cond_true, hd]
theorem dps_appo {d sz x y os E H r v rows y0 rd acc K} (h1 : rowsOf H (opd G E y) = some (sz, [y0])) (hd : rdF (opd G E y) = rd) (h2 : opd G E x = .own r v) (h3 : lkH H r = some (.buf sz rows v)) (hl : rows.length + 1 < 2 ^ 32)
    (h : DPS S G os ⟨(d, .own r (v + 1)) :: E, (r, .bufo sz rows (v + 1)) :: H⟩ ((r :: rd, [r]) :: acc) K) : DPS S G (.a d (.appo sz x y) :: os) ⟨E, H⟩ acc K := by
  refine dps_a (r := ⟨.own r (v + 1), [(r, .bufo sz rows (v + 1))], r :: rd⟩) ?_ h
  have e : ∀ n, Nat.beq n n = true := by simp
  simp only [stepOp, h1, h2, h3, e, decide_eq_true hl, Bool.and_self, cond_true, hd]
theorem dps_appn {d r sz y os E H ys rd acc K} (h1 : rowsOf H (opd G E y) = some (sz, ys)) (hd : rdF (opd G E y) = rd) (hf : freshAt H [r] = true) (hl : ys.length < 2 ^ 32)
    (h : DPS S G os ⟨(d, .own r 0) :: E, (r, .buf sz ys 0) :: H⟩ ((r :: rd, [r]) :: acc) K) : DPS S G (.a d (.appn r sz y) :: os) ⟨E, H⟩ acc K := by
  refine dps_a (r := ⟨.own r 0, [(r, .buf sz ys 0)], r :: rd⟩) ?_ h
  have e : ∀ n, Nat.beq n n = true := by simp
  simp only [stepOp, h1, hf, e, decide_eq_true hl, Bool.and_self, cond_true, hd]
theorem dps_store_op {n a x os E H r v rows row rd acc K} (h1 : opd G E a = .op r v) (h2 : lkH H r = some (.bufo n rows v)) (hz : Nat.beq (sizeAV (frz H (opd G E x))) n = true) (hr : rowOf (frz H (opd G E x)) = some row) (hd : rdF (opd G E x) = rd)
    (h : ∀ zs, zs = rows ++ [row] → DPS S G os ⟨E, (r, .buf n zs v) :: H⟩ ((r :: rd, [r]) :: acc) K) : DPS S G (.n (.store n a x) :: os) ⟨E, H⟩ acc K := by
  refine dps_n (r := ⟨.undef, [(r, .buf n (rows ++ [row]) v)], r :: rd⟩) ?_ (h _ rfl)
  have e : ∀ n, Nat.beq n n = true := by simp
  simp only [stepOp, h1, h2, hz, e, hr, Bool.and_self, cond_true, hd]
def mxI (G : Nat → AV) (env : List (Nat × AV)) : Option Opd → Option (Option Int)
  | none => some none
  | some y => (asI (opd G env y)).map fun p => some p.2
theorem dps_slc {d sz x lo hi mx os E H rows rd l h m v acc K} (h1 : rowsOf H (opd G E x) = some (sz, rows)) (hd : rdF (opd G E x) = rd) (h2 : optI G E 0 lo = some l) (h3 : optI G E rows.length hi = some h)
    (h4 : mxI G E mx = some m) (h5 : slcEv rows sz l h m = some v)
    (hk : DPS S G os ⟨(d, v) :: E, H⟩ ((rd, []) :: acc) K) : DPS S G (.a d (.slc sz x lo hi mx) :: os) ⟨E, H⟩ acc K := by
  refine dps_a (r := ⟨v, [], rd⟩) ?_ hk
  have e : ∀ n, Nat.beq n n = true := by simp
  cases mx with
  | none =>
    simp only [mxI, Option.some.injEq] at h4
    subst h4
    simp only [stepOp, h1, e, cond_true, h2, h3, h5, hd]
  | some y =>
    simp only [mxI] at h4
    simp only [stepOp, h1, e, cond_true, h2, h3, h4, h5, hd]
def prepC (hp : Heap) (args : List AV) : Option (List Nat × List AV × List Obj) :=
  match reach hp reachFuel (ptrsL (frzT hp args)) [] with
  | none => none
  | some order => bif distinctN order && Nat.ble order.length 64 then
    match getOs hp (rnIn hp order) order with
    | none => none
    | some objs => some (order, renL (rnIn hp order) (frzT hp args), objs)
    else none
def postC (hp : Heap) (site : Nat) (args : List AV) (order : List Nat) (res : AV) (objs' : List Obj) : Option Res :=
  bif freshAt hp (newAts order site 0 objs') then
    some ⟨ren (rnBack hp order site objs') res, updBack hp order site (rnBack hp order site objs') 0 objs', rdFs args ++ order ++ newAts order site 0 objs'⟩
  else none
theorem callOp_of {hp site f args order as objs res objs' r} (h1 : prepC hp args = some (order, as, objs)) (h2 : S.call f as objs = some (res, objs')) (h3 : postC hp site args order res objs' = some r) : callOp S hp site f args = some r := by
  unfold prepC at h1
  unfold callOp
  dsimp only
  split at h1
  · simp at h1
  · rename_i o ho
    rw [ho]
    dsimp only
    cases hb : (distinctN o && Nat.ble o.length 64) with
    | false => rw [hb] at h1; simp at h1
    | true =>
      rw [hb] at h1
      simp only [cond_true] at h1 ⊢
      split at h1
      · simp at h1
      · rename_i os hos
        simp only [Option.some.injEq, Prod.mk.injEq] at h1
        obtain ⟨rfl, rfl, rfl⟩ := h1
        rw [hos]
        dsimp only
        rw [h2]
        exact h3
theorem dps_call {d site f xs os E H order as objs res objs' v u rd acc K} (h1 : prepC H (opds G E xs) = some (order, as, objs)) (h2 : S.call f as objs = some (res, objs'))
    (h3 : postC H site (opds G E xs) order res objs' = some ⟨v, u, rd⟩) (h4 : DPS S G os ⟨(d, v) :: E, u ++ H⟩ ((rd, keysH u) :: acc) K) : DPS S G (.a d (.call site f xs) :: os) ⟨E, H⟩ acc K :=
  dps_a (r := ⟨v, u, rd⟩) (by simp only [stepOp, callOp_of h1 h2 h3]) h4
theorem dps_callv {d site x xs k caps os E H order as objs res objs' v u rd acc K} (hx : opd G E x = .fn k caps) (h1 : prepC H (opds G E xs ++ caps) = some (order, as, objs)) (h2 : S.call k as objs = some (res, objs'))
    (h3 : postC H site (opds G E xs ++ caps) order res objs' = some ⟨v, u, rd⟩) (h4 : DPS S G os ⟨(d, v) :: E, u ++ H⟩ ((rd, keysH u) :: acc) K) : DPS S G (.a d (.callv site x xs) :: os) ⟨E, H⟩ acc K :=
  dps_a (r := ⟨v, u, rd⟩) (by simp only [stepOp, hx, callOp_of h1 h2 h3]) h4
end
section
variable {R : RProg} {G : Nat → AV}
theorem wploop_raw {σ : Type} {live keep : List Nat} {b : RC} {Q : Ex → St → Prop} (I : σ → St) (P : σ → Prop) (m : σ → Nat)
    (hstep : ∀ x, P x → WP (Lim R G) G b (I x) (fun e s1 => match e with
      | .normal => ∃ y, P y ∧ m y < m x ∧ canon live keep s1 = I y
      | e => Q e (canon live keep s1))) : ∀ (n : Nat) (x : σ) (s : St), m x < n → P x → canon live keep s = I x → WP (Lim R G) G (.loop live keep b) s Q := by
  intro n
  induction n with
  | zero => intro x s h; omega
  | succ n ih =>
    intro x s hn hP hs
    obtain ⟨e, s1, h1, h2⟩ := hstep x hP
    cases e with
    | normal =>
      obtain ⟨y, hy, hm, hc⟩ := h2
      obtain ⟨e', s2, h3, h4⟩ := ih y s1 (by omega) hy hc
      refine ⟨e', s2, ?_, h4⟩
      simp only [ev] at h3 ⊢
      refine loop_eq ?_
      simp only [loopStep, hs, h1]
      exact h3
    | exit id =>
      refine ⟨.exit id, canon live keep s1, ?_, h2⟩
      simp only [ev]
      refine loop_eq ?_
      simp only [loopStep, hs, h1]
    | ret =>
      refine ⟨.ret, canon live keep s1, ?_, h2⟩
      simp only [ev]
      refine loop_eq ?_
      simp only [loopStep, hs, h1]
def again {σ : Type} (live keep : List Nat) (base : St) (u : σ → List (Nat × AV)) (v : σ → Heap) (P : σ → Prop) (m : σ → Nat) (x : σ) (Q : Ex → St → Prop) (e : Ex) (s : St) : Prop := match e with
  | .normal => ∃ y, P y ∧ m y < m x ∧ canon live keep s = ⟨updEs base.env (u y), updHs base.hp (v y)⟩
  | e => Q e (canon live keep s)
theorem again_normal0 {σ : Type} {live keep base} {u : σ → List (Nat × AV)} {v : σ → Heap} {P m x Q s} (y : σ) (hP : P y) (hm : m y < m x) (h : canon live keep s = ⟨updEs base.env (u y), updHs base.hp (v y)⟩) : again live keep base u v P m x Q .normal s := ⟨y, hP, hm, h⟩
theorem again_ret {σ : Type} {live keep base} {u : σ → List (Nat × AV)} {v : σ → Heap} {P m x Q s s1} (hc : canon live keep s = s1) (h : Q .ret s1) : again live keep base u v P m x Q .ret s := by subst hc; exact h
theorem again_exit {σ : Type} {live keep base} {u : σ → List (Nat × AV)} {v : σ → Heap} {P m x Q s s1 id} (hc : canon live keep s = s1) (h : Q (.exit id) s1) : again live keep base u v P m x Q (.exit id) s := by subst hc; exact h
theorem wploop0 {σ : Type} {live keep : List Nat} {b : RC} {s base : St} {Q : Ex → St → Prop} (u : σ → List (Nat × AV)) (v : σ → Heap) (P : σ → Prop) (m : σ → Nat) (x0 : σ)
    (hb : canon live keep s = base) (hP : P x0) (hx : base = ⟨updEs base.env (u x0), updHs base.hp (v x0)⟩)
    (hstep : ∀ x, P x → WP (Lim R G) G b ⟨updEs base.env (u x), updHs base.hp (v x)⟩ (again live keep base u v P m x Q)) : WP (Lim R G) G (.loop live keep b) s Q := by
  refine wploop_raw (fun x => ⟨updEs base.env (u x), updHs base.hp (v x)⟩) P m (fun x hx => ?_) (m x0 + 1) x0 s (by omega) hP (hb.trans hx)
  refine (hstep x hx).mono fun e s' h => ?_
  cases e <;> exact h
theorem wp_at {c s s' Q} {S : Sp} (hs : s = s') (h : WP S G c s' Q) : WP S G c s Q := hs ▸ h
theorem call_of {f p : Nat} {res : List RRes} {body : RC} {a : List AV} {h : List Obj} {r : AV × List Obj} (hR : R f = some ⟨p, res, body⟩) (hp : Nat.beq a.length p = true) (hw : WP (Lim R G) G body ⟨initE 0 a, initH 0 h⟩ (fin res h.length r)) : (Lim R G).call f a h = some r :=
  call_eq hR (body_of hp hw)
end
section
variable {S : Sp} {G : Nat → AV}
def prepQ (hp : Heap) (args : List AV) : Option (List Nat × List AV × List Obj) :=
  match Qk.reach hp reachFuel (Qk.ptrsL (Qk.frzT hp args)) [] with
  | none => none
  | some order => match Qk.distinctN order && decide (order.length ≤ 64) with
    | true => match Qk.getOs hp (Qk.rnIn hp order) order with
      | none => none
      | some objs => some (order, Qk.renL (Qk.rnIn hp order) (Qk.frzT hp args), objs)
    | false => none
def postQ (hp : Heap) (site : Nat) (args : List AV) (order : List Nat) (res : AV) (objs' : List Obj) : Option Res :=
  match Qk.freshAt hp (Qk.newAts order site 0 objs') with
  | true => some ⟨Qk.ren (Qk.rnBack hp order site objs') res, Qk.updBack hp order site (Qk.rnBack hp order site objs') 0 objs', Qk.rdFs args ++ order ++ Qk.newAts order site 0 objs'⟩
  | false => none
theorem prepQ_eq : prepQ = prepC := by
  funext hp args
  unfold prepQ prepC
  have e : ∀ n : Nat, decide (n ≤ 64) = Nat.ble n 64 := fun n => congrFun (congrFun (congrArg (fun x : NB => x.ble) NB.same) n) 64
  simp only [q_reach, q_frzT, q_distinctN, q_getOs, q_rnIn, q_renL, q_ptrsL, e]
  split
  · rfl
  · rename_i order _
    cases (distinctN order && Nat.ble order.length 64) <;> rfl
theorem postQ_eq : postQ = postC := by
  funext hp site args order res objs'
  unfold postQ postC
  simp only [q_freshAt, q_newAts, q_ren, q_rnBack, q_updBack, q_rdFs]
  cases (freshAt hp (newAts order site 0 objs')) <;> rfl
theorem fin_ret {res k r s} (h : Qk.finish k res s = some r) : fin res k r .ret s := fin_ret0 (by rw [q_finish] at h; exact h)
theorem fin_normal {res k r s} (h : Qk.finish k res s = some r) : fin res k r .normal s := fin_normal0 (by rw [q_finish] at h; exact h)
theorem again_normal {σ : Type} {live keep base} {u : σ → List (Nat × AV)} {v : σ → Heap} {P m x Q s} (y : σ) (hP : P y) (hm : m y < m x) (h : Qk.canon live keep s = ⟨updEs base.env (u y), updHs base.hp (v y)⟩) : again live keep base u v P m x Q .normal s := again_normal0 y hP hm (by rw [q_canon] at h; exact h)
theorem wploop {R : RProg} {σ : Type} {live keep : List Nat} {b : RC} {s base : St} {Q : Ex → St → Prop} (u : σ → List (Nat × AV)) (v : σ → Heap) (P : σ → Prop) (m : σ → Nat) (x0 : σ)
    (hb : Qk.canon live keep s = base) (hP : P x0) (hx : base = ⟨updEs base.env (u x0), updHs base.hp (v x0)⟩)
    (hstep : ∀ x, P x → WP (Lim R G) G b ⟨updEs base.env (u x), updHs base.hp (v x)⟩ (again live keep base u v P m x Q)) : WP (Lim R G) G (.loop live keep b) s Q := by
  rw [q_canon] at hb
  exact wploop0 u v P m x0 hb hP hx hstep
theorem dg {o os s s1 f acc K} (h2 : DPS S G os s1 (f :: acc) K) (_ : plainOp o = true := by rfl) (h : Qk.stepRO S G o s = some (s1, f) := by cbv; fail_if_success intros) : DPS S G (o :: os) s acc K := by
  simp only [q_stepRO, q_drwOk, q_lkE, q_lkH, q_opd, q_opds, q_rowsOf, q_rdF, prepQ_eq, postQ_eq, q_canon, q_finish] at *
  exact dps_cons h h2
theorem dN {s acc Q} (h : Q .normal s) : DPS S G [] s acc (KR Q) := dps_nilR h
theorem dD {s acc masks Q} (h : Q .normal s) (hd : Qk.drwOk [] masks acc.reverse = true := by cbv; fail_if_success intros) : DPS S G [] s acc (KD masks Q) := by
  simp only [q_stepRO, q_drwOk, q_lkE, q_lkH, q_opd, q_opds, q_rowsOf, q_rdF, prepQ_eq, postQ_eq, q_canon, q_finish] at *
  exact dps_nilD hd h
theorem gO {d op t b os E H acc K} (h1 : DPS S G (.a d op :: os) ⟨E, H⟩ acc K) (ht : Qk.lkE E t = .pl (.bool b) := by cbv; fail_if_success intros) : DPS S G (.q d op t b :: os) ⟨E, H⟩ acc K := by
  simp only [q_stepRO, q_drwOk, q_lkE, q_lkH, q_opd, q_opds, q_rowsOf, q_rdF, prepQ_eq, postQ_eq, q_canon, q_finish] at *
  exact dps_on ht h1
theorem gF {d op t b b' os E H acc K} (h1 : DPS S G os ⟨(d, .tup []) :: E, H⟩ (([], []) :: acc) K) (ht : Qk.lkE E t = .pl (.bool b') := by cbv; fail_if_success intros) (hb : b' = !b := by rfl) : DPS S G (.q d op t b :: os) ⟨E, H⟩ acc K := by
  simp only [q_stepRO, q_drwOk, q_lkE, q_lkH, q_opd, q_opds, q_rowsOf, q_rdF, prepQ_eq, postQ_eq, q_canon, q_finish] at *
  exact dps_off ht hb h1
theorem gU {d op t b os E H acc K} (h1 : DPS S G os ⟨(d, .tup []) :: E, H⟩ (([], []) :: acc) K) (ht : Qk.lkE E t = .tup [] := by cbv; fail_if_success intros) : DPS S G (.q d op t b :: os) ⟨E, H⟩ acc K := by
  simp only [q_stepRO, q_drwOk, q_lkE, q_lkH, q_opd, q_opds, q_rowsOf, q_rdF, prepQ_eq, postQ_eq, q_canon, q_finish] at *
  exact dps_undef ht h1
inductive CmpR : BinOp → Int → Int → Prop → Prop
  | eql (a b : Int) : CmpR .eql a b (a = b)
  | neq (a b : Int) : CmpR .neq a b (a ≠ b)
  | lss (a b : Int) : CmpR .lss a b (a < b)
  | leq (a b : Int) : CmpR .leq a b (a ≤ b)
  | gtr (a b : Int) : CmpR .gtr a b (b < a)
  | geq (a b : Int) : CmpR .geq a b (b ≤ a)
theorem dq {d op x y os E H k a b P acc K} (ht : P → DPS S G os ⟨(d, .pl (.bool true)) :: E, H⟩ (([], []) :: acc) K) (hf : ¬ P → DPS S G os ⟨(d, .pl (.bool false)) :: E, H⟩ (([], []) :: acc) K)
    (h1 : Qk.opd G E x = .pl (.int k a) := by cbv; fail_if_success intros) (h2 : Qk.opd G E y = .pl (.int k b) := by cbv; fail_if_success intros) (hP : CmpR op a b P := by constructor) : DPS S G (.a d (.bin op x y) :: os) ⟨E, H⟩ acc K := by
  simp only [q_stepRO, q_drwOk, q_lkE, q_lkH, q_opd, q_opds, q_rowsOf, q_rdF, prepQ_eq, postQ_eq, q_canon, q_finish] at *
  cases hP with
  | eql => exact dps_eql h1 h2 ht hf
  | neq => exact dps_neq h1 h2 ht hf
  | lss => exact dps_lss h1 h2 ht hf
  | leq => exact dps_leq h1 h2 ht hf
  | gtr => exact dps_gtr h1 h2 ht hf
  | geq => exact dps_geq h1 h2 ht hf
inductive AriR : BinOp → Int → Int → Int → Prop
  | add (a b : Int) : AriR .add a b (a + b)
  | sub (a b : Int) : AriR .sub a b (a - b)
  | mul (a b : Int) : AriR .mul a b (a * b)
theorem da {d op x y os E H a b c acc K} (h : ∀ z, z = c → DPS S G os ⟨(d, .pl (.int .i64 z)) :: E, H⟩ (([], []) :: acc) K)
    (h1 : Qk.opd G E x = .pl (.int .i64 a) := by cbv; fail_if_success intros) (h2 : Qk.opd G E y = .pl (.int .i64 b) := by cbv; fail_if_success intros) (hP : AriR op a b c := by constructor) (hr : -9223372036854775808 ≤ c ∧ c ≤ 9223372036854775807 := by omega) : DPS S G (.a d (.bin op x y) :: os) ⟨E, H⟩ acc K := by
  simp only [q_stepRO, q_drwOk, q_lkE, q_lkH, q_opd, q_opds, q_rowsOf, q_rdF, prepQ_eq, postQ_eq, q_canon, q_finish] at *
  cases hP with
  | add => exact dps_add h1 h2 (wrap64 hr.1 hr.2) h
  | sub => exact dps_sub h1 h2 (wrap64 hr.1 hr.2) h
  | mul => exact dps_mul h1 h2 (wrap64 hr.1 hr.2) h
theorem dl {d x os E H sz rows rd acc K} (h : ∀ z : Int, z = rows.length → DPS S G os ⟨(d, .pl (.int .i64 z)) :: E, H⟩ ((rd, []) :: acc) K)
    (h1 : Qk.rowsOf H (Qk.opd G E x) = some (sz, rows) := by cbv; fail_if_success intros) (hd : Qk.rdF (Qk.opd G E x) = rd := by cbv; fail_if_success intros) : DPS S G (.a d (.len x) :: os) ⟨E, H⟩ acc K := by
  simp only [q_stepRO, q_drwOk, q_lkE, q_lkH, q_opd, q_opds, q_rowsOf, q_rdF, prepQ_eq, postQ_eq, q_canon, q_finish] at *
  exact dps_len h1 hd h
theorem getD0 {a : List PV} {l : List (List PV)} : (a :: l).getD (0 : Int).toNat [] = a := rfl
theorem getD1 {a b : List PV} {l : List (List PV)} : (a :: b :: l).getD (1 : Int).toNat [] = b := rfl
theorem getD2 {a b c : List PV} {l : List (List PV)} : (a :: b :: c :: l).getD (2 : Int).toNat [] = c := rfl
theorem di {d sz xs i os E H rows rd k n row acc K} (h : DPS S G os ⟨(d, .rp sz row) :: E, H⟩ ((rd, []) :: acc) K) (h1 : Qk.rowsOf H (Qk.opd G E xs) = some (sz, rows) := by cbv; fail_if_success intros) (hd : Qk.rdF (Qk.opd G E xs) = rd := by cbv; fail_if_success intros) (h2 : Qk.opd G E i = .pl (.int k n) := by cbv; fail_if_success intros)
    (hr : rows.getD n.toNat [] = row := by first | assumption | with_reducible exact getD0 | with_reducible exact getD1 | with_reducible exact getD2) (hn : 0 ≤ n ∧ n < rows.length := by first | omega | (simp only [List.length_cons, List.length_nil]; omega)) : DPS S G (.a d (.iadd sz xs i) :: os) ⟨E, H⟩ acc K := by
  simp only [q_stepRO, q_drwOk, q_lkE, q_lkH, q_opd, q_opds, q_rowsOf, q_rdF, prepQ_eq, postQ_eq, q_canon, q_finish] at *
  exact dps_iadd h1 hd h2 hn hr h
theorem dp {d sz x y os E H r v rows ys rd acc K} (h : ∀ zs, zs = rows ++ ys → DPS S G os ⟨(d, .own r (v + 1)) :: E, (r, .buf sz zs (v + 1)) :: H⟩ ((r :: rd, [r]) :: acc) K)
    (h1 : Qk.rowsOf H (Qk.opd G E y) = some (sz, ys) := by cbv; fail_if_success intros) (hd : Qk.rdF (Qk.opd G E y) = rd := by cbv; fail_if_success intros) (h2 : Qk.opd G E x = .own r v := by cbv; fail_if_success intros) (h3 : Qk.lkH H r = some (.buf sz rows v) := by cbv; fail_if_success intros) (hl : rows.length + ys.length < 2 ^ 32 := by (try simp only [List.length_cons, List.length_nil]); omega) : DPS S G (.a d (.app sz x y) :: os) ⟨E, H⟩ acc K := by
  simp only [q_stepRO, q_drwOk, q_lkE, q_lkH, q_opd, q_opds, q_rowsOf, q_rdF, prepQ_eq, postQ_eq, q_canon, q_finish] at *
  exact dps_app h1 hd h2 h3 hl h
theorem dc {d site f xs os E H order as objs res objs' v u rd acc K} (h4 : DPS S G os ⟨(d, v) :: E, u ++ H⟩ ((rd, keysH u) :: acc) K) (h1 : prepQ H (Qk.opds G E xs) = some (order, as, objs) := by cbv; fail_if_success intros) (h2 : S.call f as objs = some (res, objs') := by assumption)
    (h3 : postQ H site (Qk.opds G E xs) order res objs' = some ⟨v, u, rd⟩ := by cbv; fail_if_success intros) : DPS S G (.a d (.call site f xs) :: os) ⟨E, H⟩ acc K := by
  simp only [q_stepRO, q_drwOk, q_lkE, q_lkH, q_opd, q_opds, q_rowsOf, q_rdF, prepQ_eq, postQ_eq, q_canon, q_finish] at *
  exact dps_call h1 h2 h3 h4
theorem dv {d site x xs k caps os E H order as objs res objs' v u rd acc K} (h4 : DPS S G os ⟨(d, v) :: E, u ++ H⟩ ((rd, keysH u) :: acc) K) (hx : Qk.opd G E x = .fn k caps := by cbv; fail_if_success intros) (h1 : prepQ H (Qk.opds G E xs ++ caps) = some (order, as, objs) := by cbv; fail_if_success intros) (h2 : S.call k as objs = some (res, objs') := by assumption)
    (h3 : postQ H site (Qk.opds G E xs ++ caps) order res objs' = some ⟨v, u, rd⟩ := by cbv; fail_if_success intros) : DPS S G (.a d (.callv site x xs) :: os) ⟨E, H⟩ acc K := by
  simp only [q_stepRO, q_drwOk, q_lkE, q_lkH, q_opd, q_opds, q_rowsOf, q_rdF, prepQ_eq, postQ_eq, q_canon, q_finish] at *
  exact dps_callv hx h1 h2 h3 h4
theorem dS {n a x os E H r v rows row rd acc K} (h : ∀ zs, zs = rows ++ [row] → DPS S G os ⟨E, (r, .buf n zs v) :: H⟩ ((r :: rd, [r]) :: acc) K)
    (h1 : Qk.opd G E a = .op r v := by cbv; fail_if_success intros) (h2 : Qk.lkH H r = some (.bufo n rows v) := by cbv; fail_if_success intros) (hz : Nat.beq (Qk.sizeAV (Qk.frz H (Qk.opd G E x))) n = true := by cbv) (hr : Qk.rowOf (Qk.frz H (Qk.opd G E x)) = some row := by cbv; fail_if_success intros) (hd : Qk.rdF (Qk.opd G E x) = rd := by cbv; fail_if_success intros) : DPS S G (.n (.store n a x) :: os) ⟨E, H⟩ acc K := by
  simp only [q_stepRO, q_drwOk, q_lkE, q_lkH, q_opd, q_opds, q_rowsOf, q_rdF, q_freshAt, q_optI, q_slcEv, q_sizeAV, q_frz, q_rowOf, prepQ_eq, postQ_eq, q_canon, q_finish] at *
  exact dps_store_op h1 h2 hz hr hd h
theorem dO {d sz x y os E H r v rows y0 rd acc K} (h : DPS S G os ⟨(d, .own r (v + 1)) :: E, (r, .bufo sz rows (v + 1)) :: H⟩ ((r :: rd, [r]) :: acc) K)
    (h1 : Qk.rowsOf H (Qk.opd G E y) = some (sz, [y0]) := by cbv; fail_if_success intros) (hd : Qk.rdF (Qk.opd G E y) = rd := by cbv; fail_if_success intros) (h2 : Qk.opd G E x = .own r v := by cbv; fail_if_success intros) (h3 : Qk.lkH H r = some (.buf sz rows v) := by cbv; fail_if_success intros) (hl : rows.length + 1 < 2 ^ 32 := by (try simp only [List.length_cons, List.length_nil]); omega) : DPS S G (.a d (.appo sz x y) :: os) ⟨E, H⟩ acc K := by
  simp only [q_stepRO, q_drwOk, q_lkE, q_lkH, q_opd, q_opds, q_rowsOf, q_rdF, q_freshAt, q_optI, q_slcEv, q_sizeAV, q_frz, q_rowOf, prepQ_eq, postQ_eq, q_canon, q_finish] at *
  exact dps_appo h1 hd h2 h3 hl h
theorem dA {d r sz y os E H ys rd acc K} (h : DPS S G os ⟨(d, .own r 0) :: E, (r, .buf sz ys 0) :: H⟩ ((r :: rd, [r]) :: acc) K)
    (h1 : Qk.rowsOf H (Qk.opd G E y) = some (sz, ys) := by cbv; fail_if_success intros) (hd : Qk.rdF (Qk.opd G E y) = rd := by cbv; fail_if_success intros) (hf : Qk.freshAt H [r] = true := by cbv) (hl : ys.length < 2 ^ 32 := by (try simp only [List.length_cons, List.length_nil]); omega) : DPS S G (.a d (.appn r sz y) :: os) ⟨E, H⟩ acc K := by
  simp only [q_stepRO, q_drwOk, q_lkE, q_lkH, q_opd, q_opds, q_rowsOf, q_rdF, q_freshAt, q_optI, q_slcEv, q_sizeAV, q_frz, q_rowOf, prepQ_eq, postQ_eq, q_canon, q_finish] at *
  exact dps_appn h1 hd hf hl h
theorem dI {d sz xs i os E H r v rows k n acc K} (h : DPS S G os ⟨(d, .op r v) :: E, H⟩ (([r], []) :: acc) K) (h1 : Qk.opd G E xs = .own r v := by cbv; fail_if_success intros) (h3 : Qk.lkH H r = some (.bufo sz rows v) := by cbv; fail_if_success intros) (h2 : Qk.opd G E i = .pl (.int k n) := by cbv; fail_if_success intros) (hn : n = rows.length := by omega) : DPS S G (.a d (.iadd sz xs i) :: os) ⟨E, H⟩ acc K := by
  simp only [q_stepRO, q_drwOk, q_lkE, q_lkH, q_opd, q_opds, q_rowsOf, q_rdF, q_freshAt, q_optI, q_slcEv, q_sizeAV, q_frz, q_rowOf, prepQ_eq, postQ_eq, q_canon, q_finish] at *
  refine dps_a (r := ⟨.op r v, [], [r]⟩) ?_ h
  have e : ∀ n, Nat.beq n n = true := by simp
  simp only [stepOp, h1, h2, h3, asI, e, Bool.and_self, cond_true, decide_eq_true hn]
theorem dM {d x y os E H k k' a b acc K} (h : ∀ z, z = (if b < a then b else a) → DPS S G os ⟨(d, .pl (.int k z)) :: E, H⟩ (([], []) :: acc) K)
    (h1 : Qk.opd G E x = .pl (.int k a) := by cbv; fail_if_success intros) (h2 : Qk.opd G E y = .pl (.int k' b) := by cbv; fail_if_success intros) : DPS S G (.a d (.min2 x y) :: os) ⟨E, H⟩ acc K := by
  simp only [q_stepRO, q_drwOk, q_lkE, q_lkH, q_opd, q_opds, q_rowsOf, q_rdF, q_freshAt, q_optI, q_slcEv, q_sizeAV, q_frz, q_rowOf, prepQ_eq, postQ_eq, q_canon, q_finish] at *
  exact dps_min h1 h2 h
theorem dX {d x y os E H k k' a b acc K} (h : ∀ z, z = (if a < b then b else a) → DPS S G os ⟨(d, .pl (.int k z)) :: E, H⟩ (([], []) :: acc) K)
    (h1 : Qk.opd G E x = .pl (.int k a) := by cbv; fail_if_success intros) (h2 : Qk.opd G E y = .pl (.int k' b) := by cbv; fail_if_success intros) : DPS S G (.a d (.max2 x y) :: os) ⟨E, H⟩ acc K := by
  simp only [q_stepRO, q_drwOk, q_lkE, q_lkH, q_opd, q_opds, q_rowsOf, q_rdF, q_freshAt, q_optI, q_slcEv, q_sizeAV, q_frz, q_rowOf, prepQ_eq, postQ_eq, q_canon, q_finish] at *
  exact dps_max h1 h2 h
theorem dR {d x y os E H k a b acc K} (h : ∀ z, z = a.tmod b → DPS S G os ⟨(d, .pl (.int k z)) :: E, H⟩ (([], []) :: acc) K)
    (h1 : Qk.opd G E x = .pl (.int k a) := by cbv; fail_if_success intros) (h2 : Qk.opd G E y = .pl (.int k b) := by cbv; fail_if_success intros) (hb : b ≠ 0 := by omega) : DPS S G (.a d (.bin .rem x y) :: os) ⟨E, H⟩ acc K := by
  simp only [q_stepRO, q_drwOk, q_lkE, q_lkH, q_opd, q_opds, q_rowsOf, q_rdF, q_freshAt, q_optI, q_slcEv, q_sizeAV, q_frz, q_rowOf, prepQ_eq, postQ_eq, q_canon, q_finish] at *
  exact dps_rem h1 h2 hb h
theorem dL {d sz x lo hi mx os E H rows rd l h m v acc K} (hk : DPS S G os ⟨(d, v) :: E, H⟩ ((rd, []) :: acc) K) (h1 : Qk.rowsOf H (Qk.opd G E x) = some (sz, rows) := by cbv; fail_if_success intros) (hd : Qk.rdF (Qk.opd G E x) = rd := by cbv; fail_if_success intros) (h2 : Qk.optI G E 0 lo = some l := by cbv; fail_if_success intros) (h3 : Qk.optI G E rows.length hi = some h := by cbv; fail_if_success intros)
    (h4 : mxI G E mx = some m := by rfl) (h5 : slcEv rows sz l h m = some v := by assumption) : DPS S G (.a d (.slc sz x lo hi mx) :: os) ⟨E, H⟩ acc K := by
  simp only [q_stepRO, q_drwOk, q_lkE, q_lkH, q_opd, q_opds, q_rowsOf, q_rdF, q_freshAt, q_optI, q_slcEv, q_sizeAV, q_frz, q_rowOf, prepQ_eq, postQ_eq, q_canon, q_finish] at *
  exact dps_slc h1 hd h2 h3 h4 h5 hk
theorem cT {c a b s Q} (h1 : WP S G a s Q) (h : Qk.opd G s.env c = .pl (.bool true) := by cbv; fail_if_success intros) : WP S G (.cond c a b) s Q := by
  simp only [q_stepRO, q_drwOk, q_lkE, q_lkH, q_opd, q_opds, q_rowsOf, q_rdF, prepQ_eq, postQ_eq, q_canon, q_finish] at *
  exact wpcondT h h1
theorem cF {c a b s Q} (h1 : WP S G b s Q) (h : Qk.opd G s.env c = .pl (.bool false) := by cbv; fail_if_success intros) : WP S G (.cond c a b) s Q := by
  simp only [q_stepRO, q_drwOk, q_lkE, q_lkH, q_opd, q_opds, q_rowsOf, q_rdF, prepQ_eq, postQ_eq, q_canon, q_finish] at *
  exact wpcondF h h1
theorem wS {a b s Q} (h : WP S G a s (after S G b Q)) : WP S G (.seq a b) s Q := wpseq h
theorem wG {ops s Q} (h : DPS S G ops s [] (KR Q)) : WP S G (.reg ops) s Q := wpreg h
theorem wD {ops masks s Q} (h : DPS S G ops s [] (KD masks Q)) : WP S G (.drw ops masks) s Q := wpdrw h
theorem wK {s Q} (h : Q .normal s) : WP S G .skip s Q := wpskip h
theorem wR {s Q} (h : Q .ret s) : WP S G .ret s Q := wpret h
theorem wE {id s Q} (h : Q (.exit id) s) : WP S G (.exit id) s Q := wpexit h
theorem wB {id b s Q} (h : WP S G b s (leave id Q)) : WP S G (.block id b) s Q := wpblock h
theorem aN {b Q s} (h : WP S G b s Q) : after S G b Q .normal s := after_normal h
theorem aR {b Q s} (h : Q .ret s) : after S G b Q .ret s := after_ret h
theorem aE {b Q id s} (h : Q (.exit id) s) : after S G b Q (.exit id) s := after_exit h
theorem lN {id Q s} (h : Q .normal s) : leave id Q .normal s := leave_normal h
theorem lR {id Q s} (h : Q .ret s) : leave id Q .ret s := leave_ret h
theorem lE {id Q s} (h : Q .normal s) : leave id Q (.exit id) s := leave_exit h
theorem lO {id id' Q s} (h : Q (.exit id') s) (hn : Nat.beq id' id = false := by rfl) : leave id Q (.exit id') s := leave_other hn h
theorem yR {σ : Type} {live keep base} {u : σ → List (Nat × AV)} {v : σ → Heap} {P m x Q s s1} (h : Q .ret s1) (hc : Qk.canon live keep s = s1 := by cbv) : again live keep base u v P m x Q .ret s := by rw [q_canon] at hc; exact again_ret hc h
theorem yE {σ : Type} {live keep base} {u : σ → List (Nat × AV)} {v : σ → Heap} {P m x Q s s1 id} (h : Q (.exit id) s1) (hc : Qk.canon live keep s = s1 := by cbv) : again live keep base u v P m x Q (.exit id) s := by rw [q_canon] at hc; exact again_exit hc h
theorem diE {d sz xs i os E H rows rd k n acc K} {P : Int → Prop} (h1 : Qk.rowsOf H (Qk.opd G E xs) = some (sz, rows)) (hd : Qk.rdF (Qk.opd G E xs) = rd) (h2 : Qk.opd G E i = .pl (.int k n)) (hr : ∃ v : Int, rows.getD n.toNat [] = [.int .i64 v] ∧ P v) (hn : 0 ≤ n ∧ n < rows.length)
    (h : ∀ v, P v → DPS S G os ⟨(d, .rp sz [.int .i64 v]) :: E, H⟩ ((rd, []) :: acc) K) : DPS S G (.a d (.iadd sz xs i) :: os) ⟨E, H⟩ acc K := by
  obtain ⟨v, h3, h4⟩ := hr
  exact di (h v h4) h1 hd h2 h3 hn
theorem dE {d site f xs os E H order as objs acc K} {α β : Type} {Rs : α → β → AV} {Os : α → β → List Obj} {P : α → β → Prop} (h1 : prepQ H (Qk.opds G E xs) = some (order, as, objs)) (hs : ∃ x y, S.call f as objs = some (Rs x y, Os x y) ∧ P x y)
    (k : ∀ x y, P x y → ∃ v u rd, postQ H site (Qk.opds G E xs) order (Rs x y) (Os x y) = some ⟨v, u, rd⟩ ∧ DPS S G os ⟨(d, v) :: E, u ++ H⟩ ((rd, keysH u) :: acc) K) : DPS S G (.a d (.call site f xs) :: os) ⟨E, H⟩ acc K := by
  obtain ⟨x, y, hc, hp⟩ := hs
  obtain ⟨v, u, rd, h3, h4⟩ := k x y hp
  exact dc h4 h1 hc h3
def finP (res : List RRes) (k : Nat) (P : AV × List Obj → Prop) (e : Ex) (s : St) : Prop := match e with
  | .exit _ => False
  | _ => ∃ r, Qk.finish k res s = some r ∧ P r
theorem finP_ret {res k P s r} (h : Qk.finish k res s = some r) (hp : P r) : finP res k P .ret s := ⟨r, h, hp⟩
end
theorem call_ofE {R : RProg} {G : Nat → AV} {f p : Nat} {res : List RRes} {body : RC} {a : List AV} {h : List Obj} {P : AV × List Obj → Prop} (hR : R f = some ⟨p, res, body⟩) (hp : Nat.beq a.length p = true) (hw : WP (Lim R G) G body ⟨initE 0 a, initH 0 h⟩ (finP res h.length P)) : ∃ r, (Lim R G).call f a h = some r ∧ P r := by
  obtain ⟨e, s1, a1, b⟩ := hw
  have hb : ∃ r, finish h.length res s1 = some r ∧ P r := by
    cases e with
    | exit id => exact b.elim
    | normal => simp only [finP, q_finish] at b; exact b
    | ret => simp only [finP, q_finish] at b; exact b
  obtain ⟨r, h1, h2⟩ := hb
  refine ⟨r, call_of hR hp ⟨e, s1, a1, ?_⟩, h2⟩
  cases e with
  | exit id => exact b.elim
  | normal => exact h1
  | ret => exact h1
theorem ex2 {S : Sp} {f : Nat} {a : List AV} {h : List Obj} {α β : Type} {Rs : α → β → AV} {Os : α → β → List Obj} {P : α → β → Prop} (hh : ∃ r, S.call f a h = some r ∧ ∃ x y, r = (Rs x y, Os x y) ∧ P x y) : ∃ x y, S.call f a h = some (Rs x y, Os x y) ∧ P x y := by
  obtain ⟨r, h1, x, y, rfl, hp⟩ := hh
  exact ⟨x, y, h1, hp⟩
attribute [irreducible] DPS WP after leave fin again KR KD finP
end Eng

namespace Eng
open Go
section
variable {S : Sp} {G : Nat → AV}
theorem zs {d r os E H acc K} (h : DPS S G os ⟨(d, .mp r) :: E, (r, .set []) :: H⟩ (([r], [r]) :: acc) K) (hf : Qk.freshAt H [r] = true := by cbv) : DPS S G (.a d (.mset r) :: os) ⟨E, H⟩ acc K := by
  simp only [q_freshAt] at hf
  refine dps_a (r := ⟨.mp r, [(r, .set [])], [r]⟩) ?_ h
  simp only [stepOp, hf, cond_true]
theorem zm {m k os E H r n ks acc K} (h : ∀ q, q = insK ks n → DPS S G os ⟨E, (r, .set q) :: H⟩ (([r], [r]) :: acc) K) (h1 : Qk.opd G E m = .mp r := by cbv; fail_if_success intros) (h2 : Qk.opd G E k = .pl (.int .i64 n) := by cbv; fail_if_success intros)
    (h3 : Qk.lkH H r = some (.set ks) := by cbv; fail_if_success intros) : DPS S G (.n (.mput m k) :: os) ⟨E, H⟩ acc K := by
  simp only [q_opd, q_lkH] at h1 h2 h3
  refine dps_n (r := ⟨.undef, [(r, .set (insK ks n))], [r]⟩) ?_ (h _ rfl)
  simp only [stepOp, h1, h2, h3, asI]
theorem zr {d m os E H r ks acc K} (h : ∀ q, q = rowsK (sortK ks) → DPS S G os ⟨(d, .pl (.sl 1 q)) :: E, H⟩ (([r], []) :: acc) K) (h1 : Qk.opd G E m = .mp r := by cbv; fail_if_success intros)
    (h3 : Qk.lkH H r = some (.set ks) := by cbv; fail_if_success intros) (hl : ks.length < 2 ^ 32 := by assumption) : DPS S G (.a d (.srt m) :: os) ⟨E, H⟩ acc K := by
  simp only [q_opd, q_lkH] at h1 h3
  refine dps_a (r := ⟨.pl (.sl 1 (rowsK (sortK ks))), [], [r]⟩) ?_ (h _ rfl)
  simp only [stepOp, h1, h3, decide_eq_true hl, cond_true]
theorem zx {d sz x y os E H rows ys rd acc K} (h : ∀ zs, zs = rows ++ ys → DPS S G os ⟨(d, .pl (.sl sz zs)) :: E, H⟩ ((rd, []) :: acc) K)
    (h1 : Qk.rowsOf H (Qk.opd G E y) = some (sz, ys) := by cbv; fail_if_success intros) (hd : Qk.rdF (Qk.opd G E y) = rd := by cbv; fail_if_success intros) (h2 : Qk.opd G E x = .ex sz rows := by cbv; fail_if_success intros) (hl : rows.length + ys.length < 2 ^ 32 := by (try simp only [List.length_cons, List.length_nil]); omega) : DPS S G (.a d (.app sz x y) :: os) ⟨E, H⟩ acc K := by
  simp only [q_opd, q_rowsOf, q_rdF] at h1 hd h2
  exact dps_appx h1 hd h2 hl h
end
end Eng

namespace Eng
open Go
section
variable {S : Sp} {G : Nat → AV}
theorem uT {d op x y os E H k a b P acc K} (h : DPS S G os ⟨(d, .pl (.bool true)) :: E, H⟩ (([], []) :: acc) K)
    (h1 : Qk.opd G E x = .pl (.int k a) := by cbv; fail_if_success intros) (h2 : Qk.opd G E y = .pl (.int k b) := by cbv; fail_if_success intros) (hP : CmpR op a b P := by constructor) (hp : P := by omega) : DPS S G (.a d (.bin op x y) :: os) ⟨E, H⟩ acc K :=
  dq (fun _ => h) (fun hn => absurd hp hn) h1 h2 hP
theorem uF {d op x y os E H k a b P acc K} (h : DPS S G os ⟨(d, .pl (.bool false)) :: E, H⟩ (([], []) :: acc) K)
    (h1 : Qk.opd G E x = .pl (.int k a) := by cbv; fail_if_success intros) (h2 : Qk.opd G E y = .pl (.int k b) := by cbv; fail_if_success intros) (hP : CmpR op a b P := by constructor) (hp : ¬ P := by omega) : DPS S G (.a d (.bin op x y) :: os) ⟨E, H⟩ acc K :=
  dq (fun h => absurd h hp) (fun _ => h) h1 h2 hP
def plainOq : RO → Bool
  | .n _ => false
  | o => plainOp o
theorem ug {o os s s1 f acc K} (h2 : DPS S G os s1 (f :: acc) K) (hp : plainOq o = true := by rfl) (h : Qk.stepRO S G o s = some (s1, f) := by cbv; fail_if_success intros) : DPS S G (o :: os) s acc K :=
  dg h2 (by cases o with | n op => cases hp | _ => exact hp) h
end
structure Lf (Q : Prop) : Prop where
  q : Q
theorem uU {P Q : Prop} (q : Q) (h : Lf Q → P := by
    intro q
    repeat1' (first | refine ug ?_ | refine dN ?_ | refine dD ?_ | refine aN ?_ | refine wS ?_ | refine wG ?_ | refine wD ?_ | refine wK ?_ | refine wR ?_ | refine wE ?_ | refine wB ?_ | refine aR ?_ | refine aE ?_ | refine lN ?_ | refine lR ?_ | refine lE ?_ | refine lO ?_ | refine cT ?_ | refine cF ?_ | refine gO ?_ | refine gU ?_ | refine gF ?_ | refine dc ?_ | refine dv ?_ | refine di ?_ | refine uT ?_ | refine uF ?_ | refine yR ?_ | refine yE ?_ | refine dI ?_ | refine dO ?_ | refine dA ?_ | refine dL ?_ | refine zs ?_ | (fail_if_success refine dS (fun zs hzs => ?_)); refine dg ?_)
    exact q.q) : P := h ⟨q⟩
theorem uV {P : Prop} {c : Int} {Q : Int → Prop} (q : ∀ z, z = c → Q z) (h : Lf (∀ z, z = c → Q z) → P := by
    intro q
    first | exact da q.q | exact dl q.q | exact dM q.q | exact dX q.q | exact dR q.q) : P := h ⟨q⟩
theorem uW {P : Prop} {c : List (List PV)} {Q : List (List PV) → Prop} (q : ∀ z, z = c → Q z) (h : Lf (∀ z, z = c → Q z) → P := by
    intro q
    first | exact dS q.q | exact dp q.q | exact zx q.q) : P := h ⟨q⟩
end Eng

