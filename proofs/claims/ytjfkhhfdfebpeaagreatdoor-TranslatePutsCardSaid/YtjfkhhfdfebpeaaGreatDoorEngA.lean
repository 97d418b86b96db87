/- The engine, part A: the resolved code, the abstract values and the evaluator. No program is in sight here. -/
import Derived.Calls
import Derived.Laws.AppendOwn
import Derived.Orders
import Derived.WalkKit
import Derived.MapKept
set_option linter.all false
set_option linter.unusedVariables false
set_option linter.unusedSimpArgs false
namespace Eng
open Go
inductive PV where
  | top
  | int (k : IntKind) (n : Int)
  | bool (b : Bool)
  | str (s : ByteArray)
  | sl (sz : Nat) (rows : List (List PV))
inductive AV where
  | undef
  | pl (p : PV)
  | st (n : Nat) (cs : List PV)
  | own (r v : Nat)
  | ex (sz : Nat) (rows : List (List PV))
  | ptr (r off : Nat)
  | mp (r : Nat)
  | op (r v : Nat)
  | rp (n : Nat) (cs : List PV)
  | nilp
  | fn (f : Nat) (caps : List AV)
  | nilf
  | agg (cs : List AV)
  | tup (vs : List AV)
inductive Obj where
  | box (n : Nat) (v : AV)
  | buf (sz : Nat) (rows : List (List PV)) (v : Nat)
  | bufo (sz : Nat) (rows : List (List PV)) (v : Nat)
  | set (ks : List Int)
inductive Opd where
  | t (i : Nat)
  | i (n : Int)
  | c (v : AV)
  | g (i : Nat)
inductive ROp where
  | mov (x : Opd)
  | nilb (r sz : Nat)
  | pick (c a b : Opd)
  | box (r n : Nat) (x : Opd)
  | alloc (r n : Nat) (z : AV) (bs : List (Nat × Nat))
  | load (n : Nat) (ag : Bool) (a : Opd)
  | store (n : Nat) (a x : Opd)
  | fadd (a : Opd) (off : Nat)
  | iadd (sz : Nat) (xs i : Opd)
  | iarr (len sz : Nat) (a i : Opd)
  | fld (x : Opd) (off n : Nat) (ag : Bool)
  | build (z : List AV) (bs : List (Nat × Nat)) (ps : List (Nat × Nat × Opd))
  | bsl (sz : Nat) (ps : List Opd)
  | bslo (r sz : Nat) (ps : List Opd)
  | bin (op : BinOp) (x y : Opd)
  | binb (op : BinOp) (x y : Opd)
  | un (op : UnOp) (x : Opd)
  | conv (k : IntKind) (x : Opd)
  | len (x : Opd)
  | lens (x : Opd)
  | slc (sz : Nat) (x : Opd) (lo hi mx : Option Opd)
  | app (sz : Nat) (x y : Opd)
  | appo (sz : Nat) (x y : Opd)
  | appn (r sz : Nat) (y : Opd)
  | ext (x : Opd) (i : Nat)
  | mkf (f : Nat) (caps : List Opd)
  | call (site f : Nat) (args : List Opd)
  | callv (site : Nat) (f : Opd) (args : List Opd)
  | chk (x : Opd)
  | min2 (x y : Opd)
  | max2 (x y : Opd)
  | mset (r : Nat)
  | mput (m k : Opd)
  | srt (m : Opd)
inductive RO where
  | a (d : Nat) (op : ROp)
  | n (op : ROp)
  | q (d : Nat) (op : ROp) (t : Nat) (b : Bool)
def RO.d : RO → Option Nat
  | .a d _ => some d
  | .n _ => none
  | .q d _ _ _ => some d
def RO.op : RO → ROp
  | .a _ o => o
  | .n o => o
  | .q _ o _ _ => o
def RO.gd : RO → Option (Nat × Bool)
  | .q _ _ t b => some (t, b)
  | _ => none
inductive RC where
  | skip
  | reg (ops : List RO)
  | drw (ops : List RO) (masks : List Nat)
  | seq (a b : RC)
  | cond (c : Opd) (a b : RC)
  | block (id : Nat) (b : RC)
  | loop (live keep : List Nat) (b : RC)
  | exit (id : Nat)
  | ret
inductive RRes where
  | tmp (t : Nat)
  | cell (t n : Nat) (ag : Bool)
structure RFunc where
  params : Nat
  res : List RRes
  body : RC
inductive Ex where
  | normal
  | exit (id : Nat)
  | ret
abbrev Heap := List (Nat × Obj)
structure St where
  env : List (Nat × AV)
  hp : Heap
structure Res where
  v : AV
  upd : Heap
  rd : List Nat
structure Sp where
  call : Nat → List AV → List Obj → Option (AV × List Obj)
  loop : RC → St → Option (Ex × St)
def insK : List Int → Int → List Int
  | [], n => [n]
  | k :: l, n => if k = n then k :: l else k :: insK l n
def insS (n : Int) : List Int → List Int
  | [] => [n]
  | k :: l => if k > n then n :: k :: l else k :: insS n l
def sortK : List Int → List Int
  | [] => []
  | k :: l => insS k (sortK l)
def rowsK : List Int → List (List PV)
  | [] => []
  | n :: l => [.int .i64 n] :: rowsK l
def lkE : List (Nat × AV) → Nat → AV
  | [], _ => .undef
  | (k, v) :: l, t => bif Nat.beq k t then v else lkE l t
def lkH : Heap → Nat → Option Obj
  | [], _ => none
  | (k, o) :: l, r => bif Nat.beq k r then some o else lkH l r
def idxOf : List Nat → Nat → Nat → Option Nat
  | [], _, _ => none
  | k :: l, r, i => bif Nat.beq k r then some i else idxOf l r (i + 1)
def memN : List Nat → Nat → Bool
  | [], _ => false
  | k :: l, r => bif Nat.beq k r then true else memN l r
def nthN : List Nat → Nat → Option Nat
  | [], _ => none
  | k :: _, 0 => some k
  | _ :: l, i + 1 => nthN l i
def distinctN : List Nat → Bool
  | [] => true
  | r :: l => !memN l r && distinctN l
mutual
def ptrs : AV → List Nat
  | .own r _ => [r]
  | .ptr r _ => [r]
  | .mp r => [r]
  | .fn _ cs => ptrsL cs
  | .agg cs => ptrsL cs
  | .tup cs => ptrsL cs
  | _ => []
def ptrsL : List AV → List Nat
  | [] => []
  | v :: vs => ptrs v ++ ptrsL vs
end
structure Rn where
  p : Nat → Option Nat
  o : Nat → Nat → Option (Nat × Nat)
mutual
def ren (m : Rn) : AV → AV
  | .own r v => match m.o r v with
    | some (r', v') => .own r' v'
    | none => .pl .top
  | .ptr r off => match m.p r with
    | some r' => .ptr r' off
    | none => .pl .top
  | .mp r => match m.p r with
    | some r' => .mp r'
    | none => .pl .top
  | .fn f cs => .fn f (renL m cs)
  | .agg cs => .agg (renL m cs)
  | .tup cs => .tup (renL m cs)
  | .op _ _ => .pl .top
  | .undef => .undef
  | .pl p => .pl p
  | .st n cs => .st n cs
  | .ex sz rows => .ex sz rows
  | .rp n cs => .rp n cs
  | .nilp => .nilp
  | .nilf => .nilf
def renL (m : Rn) : List AV → List AV
  | [] => []
  | v :: vs => ren m v :: renL m vs
end
def curV (hp : Heap) (r : Nat) : Option Nat :=
  match lkH hp r with
  | some (.buf _ _ v) => some v
  | some (.bufo _ _ v) => some v
  | _ => none
def rowsOf (hp : Heap) : AV → Option (Nat × List (List PV))
  | .pl (.sl sz rows) => some (sz, rows)
  | .ex sz rows => some (sz, rows)
  | .own r v => match lkH hp r with
    | some (.buf sz rows v') => bif Nat.beq v' v then some (sz, rows) else none
    | _ => none
  | _ => none
def plains : List AV → Option (List PV)
  | [] => some []
  | .pl p :: l => match plains l with
    | some ps => some (p :: ps)
    | none => none
  | _ :: _ => none
def pack (cs : List AV) : AV :=
  match plains cs with
  | some ps => .st cs.length ps
  | none => .agg cs
def frz1 (hp : Heap) : AV → AV
  | .own r v => match rowsOf hp (.own r v) with
    | some (sz, rows) => .pl (.sl sz rows)
    | none => .undef
  | .ex sz rows => .pl (.sl sz rows)
  | v => v
def frzL (hp : Heap) : List AV → List AV
  | [] => []
  | v :: vs => frz1 hp v :: frzL hp vs
def frz (hp : Heap) : AV → AV
  | .agg cs => pack (frzL hp cs)
  | v => frz1 hp v
def frzT (hp : Heap) : List AV → List AV
  | [] => []
  | v :: vs => frz hp v :: frzT hp vs
def rdF : AV → List Nat
  | .own r _ => [r]
  | .agg cs => ptrsL cs
  | _ => []
def rdFs : List AV → List Nat
  | [] => []
  | v :: vs => rdF v ++ rdFs vs
def ptrsO : Obj → List Nat
  | .box _ v => ptrs v
  | .buf .. => []
  | .bufo .. => []
  | .set _ => []
def reach (hp : Heap) : Nat → List Nat → List Nat → Option (List Nat)
  | 0, _, _ => none
  | _ + 1, [], seen => some seen
  | n + 1, r :: todo, seen =>
    bif memN seen r then reach hp n todo seen
    else match lkH hp r with
      | some o => reach hp n (todo ++ ptrsO o) (seen ++ [r])
      | none => none
def renO (m : Rn) (nv : Nat) : Obj → Obj
  | .box n v => .box n (ren m v)
  | .buf sz rows _ => .buf sz rows nv
  | .bufo sz rows _ => .bufo sz rows nv
  | .set ks => .set ks
def getOs (hp : Heap) (m : Rn) : List Nat → Option (List Obj)
  | [] => some []
  | r :: l => match lkH hp r, getOs hp m l with
    | some o, some os => some (renO m 0 o :: os)
    | _, _ => none
def rnIn (hp : Heap) (order : List Nat) : Rn where
  p r := idxOf order r 0
  o r v := match curV hp r, idxOf order r 0 with
    | some v', some i => bif Nat.beq v' v then some (i, 0) else none
    | _, _ => none
def backAt (order : List Nat) (site : Nat) (i : Nat) : Nat :=
  match nthN order i with
  | some r => r
  | none => site + (i - order.length)
def backV (hp : Heap) (order : List Nat) (i : Nat) : Nat :=
  match nthN order i with
  | some r => match curV hp r with
    | some v => v + 1
    | none => 0
  | none => 0
def verO : Obj → Option Nat
  | .buf _ _ v => some v
  | .bufo _ _ v => some v
  | .box _ _ => none
  | .set _ => none
def nthO : List Obj → Nat → Option Obj
  | [], _ => none
  | o :: _, 0 => some o
  | _ :: l, i + 1 => nthO l i
def rnBack (hp : Heap) (order : List Nat) (site : Nat) (objs : List Obj) : Rn where
  p i := some (backAt order site i)
  o i v := match nthO objs i with
    | some o => match verO o with
      | some v' => bif Nat.beq v' v then some (backAt order site i, backV hp order i) else none
      | none => none
    | none => none
def updBack (hp : Heap) (order : List Nat) (site : Nat) (m : Rn) : Nat → List Obj → Heap
  | _, [] => []
  | i, o :: os => (backAt order site i, renO m (backV hp order i) o) :: updBack hp order site m (i + 1) os
def freshAt (hp : Heap) : List Nat → Bool
  | [] => true
  | r :: l => match lkH hp r with
    | some _ => false
    | none => Nat.ble 64 r && freshAt hp l
def newAts (order : List Nat) (site : Nat) : Nat → List Obj → List Nat
  | _, [] => []
  | i, _ :: os => match nthN order i with
    | some _ => newAts order site (i + 1) os
    | none => (site + (i - order.length)) :: newAts order site (i + 1) os
def reachFuel : Nat := 64
def callOp (S : Sp) (hp : Heap) (site f : Nat) (args : List AV) : Option Res :=
  let as := frzT hp args
  match reach hp reachFuel (ptrsL as) [] with
  | none => none
  | some order =>
    let m := rnIn hp order
    bif distinctN order && Nat.ble order.length 64 then
    match getOs hp m order with
    | none => none
    | some objs =>
      match S.call f (renL m as) objs with
      | none => none
      | some (res, objs') =>
        let b := rnBack hp order site objs'
        let ns := newAts order site 0 objs'
        bif freshAt hp ns then
          some ⟨ren b res, updBack hp order site b 0 objs', rdFs args ++ order ++ ns⟩
        else none
    else none
def opd (G : Nat → AV) (env : List (Nat × AV)) : Opd → AV
  | .t i => lkE env i
  | .i n => .pl (.int .i64 n)
  | .c v => v
  | .g i => G i
def opds (G : Nat → AV) (env : List (Nat × AV)) : List Opd → List AV
  | [] => []
  | x :: xs => opd G env x :: opds G env xs
def cellN : List PV → Nat → PV
  | [], _ => .bool false
  | p :: _, 0 => p
  | _ :: l, i + 1 => cellN l i
def cellA : List AV → Nat → Option AV
  | [], _ => none
  | p :: _, 0 => some p
  | _ :: l, i + 1 => cellA l i
def partOf (v : AV) (m off n : Nat) (ag : Bool) : Option AV :=
  bif Nat.ble (off + n) m then
    bif ag then
      bif Nat.beq off 0 && Nat.beq n m then (match v with
        | .st _ cs => some (.st m cs)
        | .agg cs => some (pack cs)
        | _ => none)
      else match v with
        | .st _ cs => some (.st n ((cs.drop off).take n))
        | .agg cs => some (pack ((cs.drop off).take n))
        | _ => none
    else bif Nat.beq n 1 then (match v with
        | .st _ cs => some (.pl (cellN cs off))
        | .agg cs => cellA cs off
        | .undef => none
        | .tup _ => none
        | x => bif Nat.beq m 1 then some x else none)
      else none
  else none
def sizeAV : AV → Nat
  | .st n _ => n
  | .agg cs => cs.length
  | .undef => 0
  | .tup _ => 0
  | _ => 1
def cellsAV : AV → List AV
  | .st _ cs => cs.map .pl
  | .agg cs => cs
  | v => [v]
def putN {α : Type} : List α → Nat → List α → List α
  | l, 0, ps => ps ++ l.drop ps.length
  | [], _ + 1, _ => []
  | a :: l, i + 1, ps => a :: putN l i ps
def putAV (v : AV) (m off n : Nat) (x : AV) : Option AV :=
  bif Nat.beq (sizeAV x) n && Nat.ble (off + n) m && Nat.blt 0 n then
    bif Nat.beq off 0 && Nat.beq n m then some x
    else match v, x with
      | .st _ cs, .pl p => some (.st m (putN cs off [p]))
      | .st _ cs, .st _ ps => some (.st m (putN cs off ps))
      | .st _ cs, x => some (.agg (putN (cs.map .pl) off (cellsAV x)))
      | .agg cs, x => some (.agg (putN cs off (cellsAV x)))
      | _, _ => none
  else none
def mkBufs : List (Nat × Nat) → Heap
  | [] => []
  | (r, sz) :: l => (r, .buf sz [] 0) :: mkBufs l
def bufAts : List (Nat × Nat) → List Nat
  | [] => []
  | (r, _) :: l => r :: bufAts l
def fillAV (G : Nat → AV) (env : List (Nat × AV)) : List AV → List (Nat × Nat × Opd) → Option (List AV)
  | z, [] => some z
  | z, (off, n, x) :: ps =>
    let v := opd G env x
    bif Nat.beq (sizeAV v) n && Nat.ble (off + n) z.length && Nat.blt 0 n then fillAV G env (putN z off (cellsAV v)) ps
    else none
def rowOf : AV → Option (List PV)
  | .pl p => some [p]
  | .st _ cs => some cs
  | _ => none
def rowsIn (hp : Heap) (sz : Nat) : List AV → Option (List (List PV))
  | [] => some []
  | v :: vs =>
    let w := frz hp v
    bif Nat.beq (sizeAV w) sz then
      match rowOf w, rowsIn hp sz vs with
      | some r, some rs => some (r :: rs)
      | _, _ => none
    else none
def binEv (op : BinOp) : AV → AV → Option AV
  | .pl (.int k a), .pl (.int k' b) =>
    match op with
    | .shl => bif decide (b < 0) then none else some (.pl (.int k (k.wrap (a * 2 ^ (min b.toNat k.bits)))))
    | .shr => bif decide (b < 0) then none else some (.pl (.int k (a.fdiv (2 ^ (min b.toNat k.bits)))))
    | _ => bif k == k' then
      match op with
      | .add => some (.pl (.int k (k.wrap (a + b))))
      | .sub => some (.pl (.int k (k.wrap (a - b))))
      | .mul => some (.pl (.int k (k.wrap (a * b))))
      | .quo => bif decide (b = 0) then none else some (.pl (.int k (k.wrap (a.tdiv b))))
      | .rem => bif decide (b = 0) then none else some (.pl (.int k (a.tmod b)))
      | .and => some (.pl (.int k (k.wrap (BitVec.ofInt k.bits a &&& BitVec.ofInt k.bits b).toNat)))
      | .or => some (.pl (.int k (k.wrap (BitVec.ofInt k.bits a ||| BitVec.ofInt k.bits b).toNat)))
      | .xor => some (.pl (.int k (k.wrap (BitVec.ofInt k.bits a ^^^ BitVec.ofInt k.bits b).toNat)))
      | .andNot => some (.pl (.int k (k.wrap (BitVec.ofInt k.bits a &&& ~~~ BitVec.ofInt k.bits b).toNat)))
      | .eql => some (.pl (.bool (a == b)))
      | .neq => some (.pl (.bool (a != b)))
      | .lss => some (.pl (.bool (decide (a < b))))
      | .leq => some (.pl (.bool (decide (a ≤ b))))
      | .gtr => some (.pl (.bool (decide (a > b))))
      | .geq => some (.pl (.bool (decide (a ≥ b))))
      | _ => none
    else none
  | _, _ => none
def binbEv (op : BinOp) : AV → AV → Option AV
  | .pl (.bool a), .pl (.bool b) =>
    match op with
    | .eql => some (.pl (.bool (a == b)))
    | .neq => some (.pl (.bool (!(a == b))))
    | _ => none
  | _, _ => none
def unEv (op : UnOp) : AV → Option AV
  | .pl (.bool b) => match op with
    | .not => some (.pl (.bool (!b)))
    | _ => none
  | .pl (.int k n) => match op with
    | .neg => some (.pl (.int k (k.wrap (0 - n))))
    | _ => none
  | _ => none
def asI : AV → Option (IntKind × Int)
  | .pl (.int k n) => some (k, n)
  | _ => none
def optI (G : Nat → AV) (env : List (Nat × AV)) (d : Int) : Option Opd → Option Int
  | none => some d
  | some x => (asI (opd G env x)).map (·.2)
def slcEv (rows : List (List PV)) (sz : Nat) (lo hi : Int) (mx : Option Int) : Option AV :=
  bif decide (0 ≤ lo) && decide (lo ≤ hi) && decide (hi ≤ rows.length) then
    match mx with
    | none => some (.pl (.sl sz ((rows.take hi.toNat).drop lo.toNat)))
    | some m => bif decide (m = hi) then some (.ex sz ((rows.take hi.toNat).drop lo.toNat)) else none
  else none
def stepOp (S : Sp) (G : Nat → AV) (env : List (Nat × AV)) (hp : Heap) : ROp → Option Res
  | .mov x => some ⟨opd G env x, [], []⟩
  | .nilb r sz => bif freshAt hp [r] then some ⟨.own r 0, [(r, .buf sz [] 0)], [r]⟩ else none
  | .pick c a b => match opd G env c with
    | .pl (.bool x) => some ⟨bif x then opd G env a else opd G env b, [], []⟩
    | _ => none
  | .box r n x =>
    let v := opd G env x
    bif freshAt hp [r] && Nat.beq (sizeAV v) n && Nat.blt 0 n then some ⟨.ptr r 0, [(r, .box n v)], [r]⟩ else none
  | .alloc r n z bs =>
    bif freshAt hp (r :: bufAts bs) && distinctN (r :: bufAts bs) && Nat.beq (sizeAV z) n && Nat.blt 0 n then some ⟨.ptr r 0, (r, .box n z) :: mkBufs bs, r :: bufAts bs⟩ else none
  | .load n ag a => match opd G env a with
    | .ptr r off => match lkH hp r with
      | some (.box m v) => match partOf v m off n ag with
        | some x => some ⟨x, [], [r]⟩
        | none => none
      | _ => none
    | .rp m cs => bif Nat.ble n m && (ag || Nat.beq n 1) then
        some ⟨bif ag then .st n (bif Nat.beq n m then cs else cs.take n) else .pl (cellN cs 0), [], []⟩ else none
    | _ => none
  | .store n a x => match opd G env a with
    | .ptr r off => match lkH hp r with
      | some (.box m v) => match putAV v m off n (opd G env x) with
        | some v' => some ⟨.undef, [(r, .box m v')], [r]⟩
        | none => none
      | _ => none
    | .op r v => match lkH hp r with
      | some (.bufo sz rows v') => bif Nat.beq v' v && Nat.beq n sz && Nat.beq (sizeAV (frz hp (opd G env x))) n then
          match rowOf (frz hp (opd G env x)) with
          | some row => some ⟨.undef, [(r, .buf sz (rows ++ [row]) v)], r :: rdF (opd G env x)⟩
          | none => none
        else none
      | _ => none
    | _ => none
  | .fadd a off => match opd G env a with
    | .ptr r o => some ⟨.ptr r (o + off), [], []⟩
    | .rp m cs => bif Nat.ble off m then some ⟨.rp (m - off) (bif Nat.beq off 0 then cs else cs.drop off), [], []⟩ else none
    | _ => none
  | .iadd sz xs i => match opd G env xs with
    | .own r v => match lkH hp r, asI (opd G env i) with
      | some (.buf sz' rows v'), some (_, n) =>
        bif Nat.beq v' v && Nat.beq sz' sz && decide (0 ≤ n) && decide (n < rows.length) then some ⟨.rp sz (rows.getD n.toNat []), [], [r]⟩ else none
      | some (.bufo sz' rows v'), some (_, n) =>
        bif Nat.beq v' v && Nat.beq sz' sz && decide (n = rows.length) then some ⟨.op r v, [], [r]⟩ else none
      | _, _ => none
    | _ => match rowsOf hp (opd G env xs), asI (opd G env i) with
    | some (sz', rows), some (_, n) =>
      bif Nat.beq sz' sz && decide (0 ≤ n) && decide (n < rows.length) then some ⟨.rp sz (rows.getD n.toNat []), [], rdF (opd G env xs)⟩ else none
    | _, _ => none
  | .iarr len sz a i => match opd G env a, asI (opd G env i) with
    | .ptr r o, some (_, n) => bif decide (0 ≤ n) && decide (n < len) then some ⟨.ptr r (o + n.toNat * sz), [], []⟩ else none
    | .rp m cs, some (_, n) => bif decide (0 ≤ n) && decide (n < len) && Nat.ble (len * sz) m then some ⟨.rp (m - n.toNat * sz) (cs.drop (n.toNat * sz)), [], []⟩ else none
    | _, _ => none
  | .fld x off n ag => match opd G env x with
    | .st m cs => match partOf (.st m cs) m off n ag with
      | some y => some ⟨y, [], []⟩
      | none => none
    | .agg cs => match partOf (.agg cs) cs.length off n ag with
      | some y => some ⟨y, [], []⟩
      | none => none
    | _ => none
  | .build z bs ps =>
    bif freshAt hp (bufAts bs) && distinctN (bufAts bs) then
      match fillAV G env z ps with
      | some cs => some ⟨pack cs, mkBufs bs, bufAts bs⟩
      | none => none
    else none
  | .bsl sz ps =>
    match rowsIn hp sz (opds G env ps) with
    | some rows => some ⟨.pl (.sl sz rows), [], rdFs (opds G env ps)⟩
    | none => none
  | .bslo r sz ps =>
    bif freshAt hp [r] && Nat.blt 0 ps.length then
      match rowsIn hp sz (opds G env ps) with
      | some rows => some ⟨.own r 0, [(r, .buf sz rows 0)], r :: rdFs (opds G env ps)⟩
      | none => none
    else none
  | .bin op x y => match binEv op (opd G env x) (opd G env y) with
    | some v => some ⟨v, [], []⟩
    | none => none
  | .binb op x y => match binbEv op (opd G env x) (opd G env y) with
    | some v => some ⟨v, [], []⟩
    | none => none
  | .un op x => match unEv op (opd G env x) with
    | some v => some ⟨v, [], []⟩
    | none => none
  | .conv k x => match opd G env x with
    | .pl (.int _ n) => some ⟨.pl (.int k (k.wrap n)), [], []⟩
    | _ => none
  | .len x => match rowsOf hp (opd G env x) with
    | some (_, rows) => some ⟨.pl (.int .i64 rows.length), [], rdF (opd G env x)⟩
    | none => none
  | .lens x => match opd G env x with
    | .pl (.str s) => some ⟨.pl (.int .i64 s.size), [], []⟩
    | _ => none
  | .slc sz0 x lo hi mx => match rowsOf hp (opd G env x) with
    | some (sz, rows) => bif Nat.beq sz sz0 then match optI G env 0 lo, optI G env rows.length hi, (match mx with | none => some none | some y => (asI (opd G env y)).map fun p => some p.2) with
      | some l, some h, some m => match slcEv rows sz l h m with
        | some v => some ⟨v, [], rdF (opd G env x)⟩
        | none => none
      | _, _, _ => none else none
    | none => none
  | .app sz x y => match rowsOf hp (opd G env y) with
    | some (sy, ys) => match opd G env x with
      | .own r v => match lkH hp r with
        | some (.buf s rows v') =>
          bif Nat.beq v' v && Nat.beq s sz && Nat.beq sy sz && decide (rows.length + ys.length < 2 ^ 32) then
            some ⟨.own r (v + 1), [(r, .buf sz (rows ++ ys) (v + 1))], r :: rdF (opd G env y)⟩ else none
        | _ => none
      | .ex s rows => bif Nat.beq s sz && Nat.beq sy sz && decide (rows.length + ys.length < 2 ^ 32) then some ⟨.pl (.sl sz (rows ++ ys)), [], rdF (opd G env y)⟩ else none
      | _ => none
    | none => none
  | .appo sz x y => match rowsOf hp (opd G env y) with
    | some (sy, [_]) => match opd G env x with
      | .own r v => match lkH hp r with
        | some (.buf s rows v') =>
          bif Nat.beq v' v && Nat.beq s sz && Nat.beq sy sz && decide (rows.length + 1 < 2 ^ 32) then
            some ⟨.own r (v + 1), [(r, .bufo sz rows (v + 1))], r :: rdF (opd G env y)⟩ else none
        | _ => none
      | _ => none
    | _ => none
  | .appn r sz y => match rowsOf hp (opd G env y) with
    | some (sy, ys) => bif freshAt hp [r] && Nat.beq sy sz && decide (ys.length < 2 ^ 32) then some ⟨.own r 0, [(r, .buf sz ys 0)], r :: rdF (opd G env y)⟩ else none
    | none => none
  | .ext x i => match opd G env x with
    | .tup vs => match cellA vs i with
      | some v => some ⟨v, [], []⟩
      | none => none
    | _ => none
  | .mkf f caps => some ⟨.fn f (frzT hp (opds G env caps)), [], rdFs (opds G env caps)⟩
  | .call site f args => callOp S hp site f (opds G env args)
  | .callv site f args => match opd G env f with
    | .fn k caps => callOp S hp site k (opds G env args ++ caps)
    | _ => none
  | .chk x => match opd G env x with
    | .ptr r o => some ⟨.ptr r o, [], []⟩
    | .rp n cs => some ⟨.rp n cs, [], []⟩
    | .fn f cs => some ⟨.fn f cs, [], []⟩
    | _ => none
  | .min2 x y => match opd G env x, opd G env y with
    | .pl (.int k a), .pl (.int _ b) => some ⟨.pl (.int k (bif decide (b < a) then b else a)), [], []⟩
    | _, _ => none
  | .max2 x y => match opd G env x, opd G env y with
    | .pl (.int k a), .pl (.int _ b) => some ⟨.pl (.int k (bif decide (a < b) then b else a)), [], []⟩
    | _, _ => none
  | .mset r => bif freshAt hp [r] then some ⟨.mp r, [(r, .set [])], [r]⟩ else none
  | .mput m k => match opd G env m, asI (opd G env k) with
    | .mp r, some (.i64, n) => match lkH hp r with
      | some (.set ks) => some ⟨.undef, [(r, .set (insK ks n))], [r]⟩
      | _ => none
    | _, _ => none
  | .srt m => match opd G env m with
    | .mp r => match lkH hp r with
      | some (.set ks) => bif decide (ks.length < 2 ^ 32) then some ⟨.pl (.sl 1 (rowsK (sortK ks))), [], [r]⟩ else none
      | _ => none
    | _ => none
def setE (env : List (Nat × AV)) : Option Nat → AV → List (Nat × AV)
  | some d, v => (d, v) :: env
  | none, _ => env
def wantedR (env : List (Nat × AV)) : Option (Nat × Bool) → Option Bool
  | none => some true
  | some (t, b) => match lkE env t with
    | .pl (.bool x) => some (x == b)
    | .tup [] => some false
    | _ => none
abbrev Foot := List Nat × List Nat
def keysH : Heap → List Nat
  | [] => []
  | (r, _) :: l => r :: keysH l
def stepRO (S : Sp) (G : Nat → AV) (o : RO) (s : St) : Option (St × Foot) :=
  match wantedR s.env o.gd with
  | some true => match stepOp S G s.env s.hp o.op with
    | some r => some (⟨setE s.env o.d r.v, r.upd ++ s.hp⟩, (r.rd, keysH r.upd))
    | none => none
  | some false => some (⟨setE s.env o.d (.tup []), s.hp⟩, ([], []))
  | none => none
def runOps (S : Sp) (G : Nat → AV) : List RO → St → Option St
  | [], s => some s
  | o :: os, s => match stepRO S G o s with
    | some (s', _) => runOps S G os s'
    | none => none
def runDrw (S : Sp) (G : Nat → AV) : List RO → St → Option (St × List Foot)
  | [], s => some (s, [])
  | o :: os, s => match stepRO S G o s with
    | some (s', f) => match runDrw S G os s' with
      | some (s'', fs) => some (s'', f :: fs)
      | none => none
    | none => none
def apartL (a b : List Nat) : Bool :=
  match a with
  | [] => true
  | r :: l => !memN b r && apartL l b
def apartF (f g : Foot) : Bool := apartL f.2 g.1 && apartL f.2 g.2 && apartL f.1 g.2
def apartAll (mask : Nat) (g : Foot) : Nat → List Foot → Bool
  | _, [] => true
  | i, f :: fs => (Nat.testBit mask i || apartF f g) && apartAll mask g (i + 1) fs
def drwOk : List Foot → List Nat → List Foot → Bool
  | _, [], [] => true
  | done, m :: ms, f :: fs => apartAll m f 0 done && drwOk (done ++ [f]) ms fs
  | _, _, _ => false
def rnKeep (hp : Heap) (keep : List Nat) : Rn where
  p r := bif memN keep r then (match lkH hp r with
    | some _ => some r
    | none => none) else none
  o r v := match curV hp r with
    | some v' => bif Nat.beq v' v && memN keep r then some (r, 0) else none
    | none => none
def canonE (m : Rn) (env : List (Nat × AV)) : List Nat → List (Nat × AV)
  | [] => []
  | t :: ts => (t, ren m (lkE env t)) :: canonE m env ts
def canonH (m : Rn) (hp : Heap) : List Nat → Heap
  | [] => []
  | r :: rs => match lkH hp r with
    | some o => (r, renO m 0 o) :: canonH m hp rs
    | none => canonH m hp rs
def canon (live keep : List Nat) (s : St) : St :=
  ⟨canonE (rnKeep s.hp keep) s.env live, canonH (rnKeep s.hp keep) s.hp keep⟩
def ev (S : Sp) (G : Nat → AV) : RC → St → Option (Ex × St)
  | .skip, s => some (.normal, s)
  | .reg ops, s => match runOps S G ops s with
    | some s' => some (.normal, s')
    | none => none
  | .drw ops masks, s => match runDrw S G ops s with
    | some (s', fs) => bif drwOk [] masks fs then some (.normal, s') else none
    | none => none
  | .seq a b, s => match ev S G a s with
    | some (.normal, s') => ev S G b s'
    | r => r
  | .cond c a b, s => match opd G s.env c with
    | .pl (.bool x) => bif x then ev S G a s else ev S G b s
    | _ => none
  | .block id b, s => match ev S G b s with
    | some (.exit id', s') => bif Nat.beq id' id then some (.normal, s') else some (.exit id', s')
    | r => r
  | .loop live keep b, s => S.loop (.loop live keep b) s
  | .exit id, s => some (.exit id, s)
  | .ret, s => some (.ret, s)
def loopStep (S : Sp) (G : Nat → AV) : RC → St → Option (Ex × St)
  | .loop live keep b, s => match ev S G b (canon live keep s) with
    | some (.normal, s') => S.loop (.loop live keep b) s'
    | some (e, s') => some (e, canon live keep s')
    | none => none
  | _, _ => none
def initE : Nat → List AV → List (Nat × AV)
  | _, [] => []
  | i, v :: vs => (i, v) :: initE (i + 1) vs
def initH : Nat → List Obj → Heap
  | _, [] => []
  | i, o :: os => (i, o) :: initH (i + 1) os
def resV (s : St) : RRes → Option AV
  | .tmp t => some (lkE s.env t)
  | .cell t n ag => match lkE s.env t with
    | .ptr r off => match lkH s.hp r with
      | some (.box m v) => partOf v m off n ag
      | _ => none
    | _ => none
def resVs (s : St) : List RRes → Option (List AV)
  | [] => some []
  | r :: rs => match resV s r, resVs s rs with
    | some v, some vs => some (frz s.hp v :: vs)
    | _, _ => none
def rangeN : Nat → Nat → List Nat
  | _, 0 => []
  | i, n + 1 => i :: rangeN (i + 1) n
def startsAt : Nat → Nat → List Nat → Bool
  | _, 0, _ => true
  | i, n + 1, r :: l => Nat.beq r i && startsAt (i + 1) n l
  | _, _ + 1, [] => false
def oneOf : List AV → AV
  | [v] => v
  | vs => .tup vs
def finish (k : Nat) (res : List RRes) (s : St) : Option (AV × List Obj) :=
  match resVs s res with
  | none => none
  | some vs =>
    match reach s.hp reachFuel (rangeN 0 k ++ ptrsL vs) [] with
    | none => none
    | some order =>
      let m := rnIn s.hp order
      bif distinctN order && startsAt 0 k order then
        match getOs s.hp m order with
        | none => none
        | some objs => some (oneOf (renL m vs), objs)
      else none
def runBody (S : Sp) (G : Nat → AV) (f : RFunc) (args : List AV) (h : List Obj) : Option (AV × List Obj) :=
  bif Nat.beq args.length f.params then
    match ev S G f.body ⟨initE 0 args, initH 0 h⟩ with
    | some (.normal, s) => finish h.length f.res s
    | some (.ret, s) => finish h.length f.res s
    | _ => none
  else none
abbrev RProg := Nat → Option RFunc
def SpN (R : RProg) (G : Nat → AV) : Nat → Sp
  | 0 => ⟨fun _ _ _ => none, fun _ _ => none⟩
  | n + 1 => ⟨fun f a h => match R f with
      | some rf => runBody (SpN R G n) G rf a h
      | none => none,
    fun c s => loopStep (SpN R G n) G c s⟩
end Eng

namespace Eng
open Go
structure Ctx where
  P : Program
  fid : Nat → FuncId
  gm : Nat → Nat
  G : Nat → AV
abbrev Kom := Nat → Nat
mutual
def RelP (K : Kom) (w : World) : PV → Value → Prop
  | .top, c => c.oneCell' = true
  | .int k n, c => c = .int k n
  | .bool b, c => c = .bool b
  | .str s, c => c = .string s
  | .sl sz rows, c => ∃ a cap, c = .slice a rows.length cap ∧ rows.length ≤ cap ∧
      (rows = [] ∨ ∃ b off cur T fr, a = some ⟨b, off, none⟩ ∧ w.heap[b]? = some (Go.Obj.cells cur T fr) ∧ off + rows.length * sz ≤ K b ∧ K b ≤ cur.size ∧
        RelRows K w sz rows (cur.toList.drop off))
def RelRows (K : Kom) (w : World) (sz : Nat) : List (List PV) → List Value → Prop
  | [], _ => True
  | r :: rs, l => r.length = sz ∧ RelL K w r l ∧ RelRows K w sz rs (l.drop sz)
def RelL (K : Kom) (w : World) : List PV → List Value → Prop
  | [], _ => True
  | p :: ps, l => ∃ c l', l = c :: l' ∧ RelP K w p c ∧ RelL K w ps l'
end
def Keep (K : Kom) (w : World) (K' : Kom) (w' : World) : Prop :=
  ∀ b cur T fr, w.heap[b]? = some (Go.Obj.cells cur T fr) → ∃ cur' fr', w'.heap[b]? = some (Go.Obj.cells cur' T fr') ∧ cur'.size = cur.size ∧ K b ≤ K' b ∧
    (K b ≤ cur.size → K' b ≤ cur.size) ∧ ∀ i, i < K b → cur'[i]? = cur[i]?
theorem Keep.refl (K : Kom) (w : World) : Keep K w K w := fun _ cur _ fr h => ⟨cur, fr, h, rfl, Nat.le_refl _, id, fun _ _ => rfl⟩
theorem Keep.trans {K K' K'' : Kom} {w w' w'' : World} (h : Keep K w K' w') (h' : Keep K' w' K'' w'') : Keep K w K'' w'' := by
  intro b cur T fr hb
  obtain ⟨c1, f1, a1, a2, a3, a4, a5⟩ := h b cur T fr hb
  obtain ⟨c2, f2, b1, b2, b3, b4, b5⟩ := h' b c1 T f1 a1
  refine ⟨c2, f2, b1, by omega, by omega, fun hh => ?_, fun i hi => ?_⟩
  · have := b4 (by rw [a2]; exact a4 hh); omega
  · rw [b5 i (by omega), a5 i hi]
section
variable {K K' : Kom} {w w' : World}
theorem RelRows_nil {sz : Nat} {l : List Value} : RelRows K w sz [] l := by simp [RelRows]
mutual
theorem RelP_mono (hk : Keep K w K' w') : ∀ (p : PV) (c : Value), RelP K w p c → RelP K' w' p c
  | .top, _, h => by simpa [RelP] using h
  | .int _ _, _, h => by simpa [RelP] using h
  | .bool _, _, h => by simpa [RelP] using h
  | .str _, _, h => by simpa [RelP] using h
  | .sl sz rows, c, h => by
    simp only [RelP] at h ⊢
    obtain ⟨a, cap, h1, h2, h3⟩ := h
    refine ⟨a, cap, h1, h2, ?_⟩
    rcases h3 with h3 | ⟨b, off, cur, T, fr, e1, e2, e3, e4, e5⟩
    · exact .inl h3
    · obtain ⟨cur', fr', k1, k2, k3, k4, k5⟩ := hk b cur T fr e2
      refine .inr ⟨b, off, cur', T, fr', e1, k1, by omega, by rw [k2]; exact k4 e4, ?_⟩
      refine RelRows_mono hk sz rows _ _ e5 fun i hi => ?_
      rw [List.getElem?_drop, List.getElem?_drop]
      have := k5 (off + i) (by omega)
      simpa using this
theorem RelRows_mono (hk : Keep K w K' w') (sz : Nat) : ∀ (rows : List (List PV)) (l l' : List Value), RelRows K w sz rows l → (∀ i, i < rows.length * sz → l'[i]? = l[i]?) → RelRows K' w' sz rows l'
  | [], _, _, _, _ => by simp [RelRows]
  | r :: rs, l, l', h, hi => by
    simp only [RelRows] at h ⊢
    obtain ⟨h1, h2, h3⟩ := h
    refine ⟨h1, RelL_mono hk r l l' h2 fun i hi' => hi i ?_, RelRows_mono hk sz rs _ _ h3 fun i hi' => ?_⟩
    · simp only [List.length_cons, Nat.add_mul, Nat.one_mul]; omega
    · rw [List.getElem?_drop, List.getElem?_drop]
      exact hi _ (by simp only [List.length_cons, Nat.add_mul, Nat.one_mul]; omega)
theorem RelL_mono (hk : Keep K w K' w') : ∀ (ps : List PV) (l l' : List Value), RelL K w ps l → (∀ i, i < ps.length → l'[i]? = l[i]?) → RelL K' w' ps l'
  | [], _, _, _, _ => by simp [RelL]
  | p :: ps, l, l', h, hi => by
    simp only [RelL] at h ⊢
    obtain ⟨c, t, rfl, h1, h2⟩ := h
    have h0 := hi 0 (by simp)
    cases l' with
    | nil => simp at h0
    | cons c' t' =>
      simp at h0
      refine ⟨c', t', rfl, by rw [h0]; exact RelP_mono hk p c h1, RelL_mono hk ps t t' h2 fun i hi' => ?_⟩
      have := hi (i + 1) (by simp; omega)
      simpa using this
end
theorem RelL_length : ∀ {ps : List PV} {l : List Value}, RelL K w ps l → ps.length ≤ l.length
  | [], _, _ => by simp
  | p :: ps, l, h => by
    simp only [RelL] at h
    obtain ⟨c, t, rfl, _, h2⟩ := h
    have := RelL_length h2
    simp; omega
theorem RelL_get : ∀ {ps : List PV} {l : List Value} (i : Nat), RelL K w ps l → i < ps.length → ∃ c, l[i]? = some c ∧ RelP K w (cellN ps i) c
  | p :: ps, l, 0, h, _ => by
    simp only [RelL] at h
    obtain ⟨c, t, rfl, h1, _⟩ := h
    exact ⟨c, by simp, h1⟩
  | p :: ps, l, i + 1, h, hi => by
    simp only [RelL] at h
    obtain ⟨c, t, rfl, _, h2⟩ := h
    obtain ⟨c', e1, e2⟩ := RelL_get i h2 (by simpa using hi)
    exact ⟨c', by simpa using e1, e2⟩
theorem RelL_drop : ∀ {ps : List PV} {l : List Value} (i : Nat), RelL K w ps l → RelL K w (ps.drop i) (l.drop i)
  | ps, l, 0, h => h
  | [], _, i + 1, _ => by simp [RelL]
  | p :: ps, l, i + 1, h => by
    simp only [RelL] at h
    obtain ⟨c, t, rfl, _, h2⟩ := h
    simpa using RelL_drop i h2
theorem RelL_take : ∀ {ps : List PV} {l : List Value} (n : Nat), RelL K w ps l → RelL K w (ps.take n) (l.take n)
  | ps, l, 0, h => by simp [RelL]
  | [], _, n + 1, _ => by simp [RelL]
  | p :: ps, l, n + 1, h => by
    simp only [RelL] at h
    obtain ⟨c, t, rfl, h1, h2⟩ := h
    simp only [List.take_succ_cons, RelL]
    exact ⟨c, _, rfl, h1, RelL_take n h2⟩
theorem RelL_append : ∀ {ps qs : List PV} {l m : List Value}, RelL K w ps l → l.length = ps.length → RelL K w qs m → RelL K w (ps ++ qs) (l ++ m)
  | [], qs, l, m, _, hl, h => by
    have : l = [] := by simpa using hl
    subst this; simpa using h
  | p :: ps, qs, l, m, h, hl, h2 => by
    simp only [RelL] at h
    obtain ⟨c, t, rfl, h1, h3⟩ := h
    simp only [List.cons_append, RelL]
    exact ⟨c, _, rfl, h1, RelL_append h3 (by simpa using hl) h2⟩
theorem RelP_oneCell {p : PV} {c : Value} (h : RelP K w p c) : c.oneCell' = true := by
  cases p with
  | top => simpa [RelP] using h
  | int k n => simp only [RelP] at h; subst h; rfl
  | bool b => simp only [RelP] at h; subst h; rfl
  | str s => simp only [RelP] at h; subst h; rfl
  | sl sz rows => simp only [RelP] at h; obtain ⟨a, cap, rfl, _⟩ := h; rfl
theorem RelL_oneCell : ∀ {ps : List PV} {l : List Value}, RelL K w ps l → l.length = ps.length → ∀ c ∈ l, c.oneCell' = true
  | [], l, _, hl, c, hc => by
    have : l = [] := by simpa using hl
    subst this; simp at hc
  | p :: ps, l, h, hl, c, hc => by
    simp only [RelL] at h
    obtain ⟨c', t, rfl, h1, h2⟩ := h
    rcases List.mem_cons.1 hc with rfl | hc
    · exact RelP_oneCell h1
    · exact RelL_oneCell h2 (by simpa using hl) c hc
theorem RelRows_get {sz : Nat} : ∀ {rows : List (List PV)} {l : List Value} (i : Nat), RelRows K w sz rows l → i < rows.length →
    (rows.getD i []).length = sz ∧ RelL K w (rows.getD i []) (l.drop (i * sz))
  | r :: rs, l, 0, h, _ => by
    simp only [RelRows] at h
    exact ⟨h.1, by simpa using h.2.1⟩
  | r :: rs, l, i + 1, h, hi => by
    simp only [RelRows] at h
    have := RelRows_get i h.2.2 (by simpa using hi)
    refine ⟨by simpa using this.1, ?_⟩
    have h2 := this.2
    rw [List.drop_drop] at h2
    have e : (i + 1) * sz = sz + i * sz := by rw [Nat.add_mul, Nat.one_mul]; omega
    rw [e]
    simpa using h2
theorem RelRows_append {sz : Nat} : ∀ {rows rs : List (List PV)} {l : List Value}, RelRows K w sz rows l → RelRows K w sz rs (l.drop (rows.length * sz)) → RelRows K w sz (rows ++ rs) l
  | [], rs, l, _, h => by simpa using h
  | r :: rows, rs, l, h, h2 => by
    simp only [RelRows] at h
    simp only [List.cons_append, RelRows]
    refine ⟨h.1, h.2.1, RelRows_append h.2.2 ?_⟩
    rw [List.drop_drop]
    have e : (r :: rows).length * sz = sz + rows.length * sz := by simp [Nat.add_mul]; omega
    rw [e] at h2
    exact h2
theorem RelRows_take {sz : Nat} : ∀ {rows : List (List PV)} {l : List Value} (n : Nat), RelRows K w sz rows l → RelRows K w sz (rows.take n) l
  | _, _, 0, _ => by simp [RelRows]
  | [], _, _ + 1, _ => by simp [RelRows]
  | r :: rs, l, n + 1, h => by
    simp only [RelRows] at h
    simp only [List.take_succ_cons, RelRows]
    exact ⟨h.1, h.2.1, RelRows_take n h.2.2⟩
theorem RelRows_drop {sz : Nat} : ∀ {rows : List (List PV)} {l : List Value} (n : Nat), RelRows K w sz rows l → RelRows K w sz (rows.drop n) (l.drop (n * sz))
  | _, _, 0, h => by simpa using h
  | [], _, _ + 1, _ => by simp [RelRows]
  | r :: rs, l, n + 1, h => by
    simp only [RelRows] at h
    have := RelRows_drop n h.2.2
    rw [List.drop_drop] at this
    have e : (n + 1) * sz = sz + n * sz := by rw [Nat.add_mul, Nat.one_mul]; omega
    rw [e]
    simpa using this
end
mutual
def RelA (fid : Nat → FuncId) (K : Kom) (w : World) (hp : Heap) (g : Nat → Value) : AV → Value → Prop
  | .undef, _ => True
  | .pl p, c => RelP K w p c
  | .st n cs, c => ∃ arr, c = .agg arr ∧ arr.size = n ∧ cs.length = n ∧ RelL K w cs arr.toList
  | .own r v, c => (∃ a n m, c = .slice a n m) ∧ ∃ vc, curV hp r = some vc ∧ v ≤ vc ∧ (v = vc → c = g r)
  | .ex sz rows, c => RelP K w (.sl sz rows) c ∧ ∃ a, c = .slice a rows.length rows.length
  | .ptr r off, c => ∃ n v b, lkH hp r = some (.box n v) ∧ g r = .pointer (some ⟨b, 0, none⟩) ∧ c = .pointer (some ⟨b, off, none⟩)
  | .mp r, c => ∃ ks b, lkH hp r = some (.set ks) ∧ g r = .map (some b) ∧ c = .map (some b)
  | .op r v, c => (∃ a, c = .pointer (some a)) ∧ ∃ vc, curV hp r = some vc ∧ v ≤ vc ∧ ∀ sz rows, lkH hp r = some (.bufo sz rows v) → ∃ b len cap, g r = .slice (some ⟨b, 0, none⟩) len cap ∧ c = .pointer (some ⟨b, rows.length * sz, none⟩)
  | .rp n cs, c => ∃ b off cur T fr, c = .pointer (some ⟨b, off, none⟩) ∧ w.heap[b]? = some (Go.Obj.cells cur T fr) ∧ off + n ≤ K b ∧ K b ≤ cur.size ∧ cs.length = n ∧ RelL K w cs (cur.toList.drop off)
  | .nilp, c => c = .pointer none
  | .fn f caps, c => ∃ arr, c = .func (.func (fid f)) #[] arr ∧ RelAs fid K w hp g caps arr.toList
  | .nilf, c => c = .nilFunc
  | .agg cs, c => ∃ arr, c = .agg arr ∧ RelCells fid K w hp g cs arr.toList
  | .tup vs, c => ∃ arr, c = .tuple arr ∧ RelAs fid K w hp g vs arr.toList
def RelAs (fid : Nat → FuncId) (K : Kom) (w : World) (hp : Heap) (g : Nat → Value) : List AV → List Value → Prop
  | [], l => l = []
  | v :: vs, l => ∃ c l', l = c :: l' ∧ RelA fid K w hp g v c ∧ RelAs fid K w hp g vs l'
def RelCells (fid : Nat → FuncId) (K : Kom) (w : World) (hp : Heap) (g : Nat → Value) : List AV → List Value → Prop
  | [], l => l = []
  | v :: vs, l => ∃ c l', l = c :: l' ∧ (RelA fid K w hp g v c ∧ c.oneCell' = true) ∧ RelCells fid K w hp g vs l'
end
def HGo (hp : Heap) (g : Nat → Value) (hp' : Heap) (g' : Nat → Value) : Prop :=
  ∀ r o, lkH hp r = some o → match o with
    | .box _ _ => (∃ n' v', lkH hp' r = some (.box n' v')) ∧ g' r = g r
    | .set _ => (∃ ks', lkH hp' r = some (.set ks')) ∧ g' r = g r
    | .buf _ _ v => ∃ v', curV hp' r = some v' ∧ v ≤ v' ∧ (v' = v → g' r = g r ∧ ∀ sz rows, lkH hp' r ≠ some (.bufo sz rows v))
    | .bufo sz rows v => ∃ v', curV hp' r = some v' ∧ v ≤ v' ∧ (v' = v → g' r = g r ∧ ∀ sz' rows', lkH hp' r = some (.bufo sz' rows' v) → sz' = sz ∧ rows' = rows)
theorem curV_box {hp : Heap} {r n : Nat} {v : AV} (h : lkH hp r = some (.box n v)) : curV hp r = none := by simp [curV, h]
theorem curV_buf {hp : Heap} {r sz v : Nat} {rows : List (List PV)} (h : lkH hp r = some (.buf sz rows v)) : curV hp r = some v := by simp [curV, h]
theorem curV_bufo {hp : Heap} {r sz v : Nat} {rows : List (List PV)} (h : lkH hp r = some (.bufo sz rows v)) : curV hp r = some v := by simp [curV, h]
theorem curV_some {hp : Heap} {r v : Nat} (h : curV hp r = some v) : (∃ sz rows, lkH hp r = some (.buf sz rows v)) ∨ ∃ sz rows, lkH hp r = some (.bufo sz rows v) := by
  unfold curV at h
  split at h
  · rename_i sz rows v' e; simp at h; subst h; exact .inl ⟨sz, rows, e⟩
  · rename_i sz rows v' e; simp at h; subst h; exact .inr ⟨sz, rows, e⟩
  · simp at h
theorem HGo.refl (hp : Heap) (g : Nat → Value) : HGo hp g hp g := by
  intro r o h
  cases o with
  | box n v => exact ⟨⟨n, v, h⟩, rfl⟩
  | set ks => exact ⟨⟨ks, h⟩, rfl⟩
  | buf sz rows v => exact ⟨v, curV_buf h, Nat.le_refl _, fun _ => ⟨rfl, fun sz' rows' e => by rw [h] at e; simp at e⟩⟩
  | bufo sz rows v => exact ⟨v, curV_bufo h, Nat.le_refl _, fun _ => ⟨rfl, fun sz' rows' e => by rw [h] at e; simp at e; exact ⟨e.1.symm, e.2.symm⟩⟩⟩
theorem HGo.own {hp hp' : Heap} {g g' : Nat → Value} (h : HGo hp g hp' g') {r vc : Nat} (hc : curV hp r = some vc) : ∃ v', curV hp' r = some v' ∧ vc ≤ v' ∧ (v' = vc → g' r = g r) := by
  rcases curV_some hc with ⟨sz, rows, e⟩ | ⟨sz, rows, e⟩
  · obtain ⟨v', a, b, c⟩ := h r _ e; exact ⟨v', a, b, fun e => (c e).1⟩
  · obtain ⟨v', a, b, c⟩ := h r _ e; exact ⟨v', a, b, fun e => (c e).1⟩
section
variable {fid : Nat → FuncId} {K K' : Kom} {w w' : World} {hp hp' : Heap} {g g' : Nat → Value}
mutual
theorem RelA_mono (hk : Keep K w K' w') (hg : HGo hp g hp' g') : ∀ (v : AV) (c : Value), RelA fid K w hp g v c → RelA fid K' w' hp' g' v c
  | .undef, _, _ => by simp [RelA]
  | .pl p, c, h => by simp only [RelA] at h ⊢; exact RelP_mono hk p c h
  | .st n cs, c, h => by
    simp only [RelA] at h ⊢
    obtain ⟨arr, e, e1, e2, e3⟩ := h
    exact ⟨arr, e, e1, e2, RelL_mono hk _ _ _ e3 fun _ _ => rfl⟩
  | .own r v, c, h => by
    simp only [RelA] at h ⊢
    obtain ⟨e0, vc, e1, e2, e3⟩ := h
    obtain ⟨v', a, b, d⟩ := hg.own e1
    refine ⟨e0, v', a, by omega, fun e => ?_⟩
    have : v' = vc := by omega
    rw [d this]; exact e3 (by omega)
  | .ex sz rows, c, h => by
    simp only [RelA] at h ⊢
    exact ⟨RelP_mono hk _ c h.1, h.2⟩
  | .ptr r off, c, h => by
    simp only [RelA] at h ⊢
    obtain ⟨n, v, b, e1, e2, e3⟩ := h
    obtain ⟨⟨n', v', a⟩, d⟩ := hg r _ e1
    exact ⟨n', v', b, a, by rw [d]; exact e2, e3⟩
  | .mp r, c, h => by
    simp only [RelA] at h ⊢
    obtain ⟨ks, b, e1, e2, e3⟩ := h
    obtain ⟨⟨ks', a⟩, d⟩ := hg r _ e1
    exact ⟨ks', b, a, by rw [d]; exact e2, e3⟩
  | .op r v, c, h => by
    simp only [RelA] at h ⊢
    obtain ⟨e0, vc, e1, e2, e3⟩ := h
    rcases curV_some e1 with ⟨sz, rows, e⟩ | ⟨sz, rows, e⟩
    · obtain ⟨v', a, b, d⟩ := hg r _ e
      refine ⟨e0, v', a, by omega, fun sz' rows' hh => ?_⟩
      have hv : v' = v := by rw [curV_bufo hh] at a; simpa using a.symm
      have : v' = vc := by omega
      subst hv
      exact absurd (this ▸ hh) ((d this).2 sz' rows' ∘ fun x => this ▸ x)
    · obtain ⟨v', a, b, d⟩ := hg r _ e
      refine ⟨e0, v', a, by omega, fun sz' rows' hh => ?_⟩
      have hv : v' = v := by rw [curV_bufo hh] at a; simpa using a.symm
      have hvc : v' = vc := by omega
      obtain ⟨d1, d2⟩ := d hvc
      have hvv : v = vc := by omega
      subst hvv
      obtain ⟨rfl, rfl⟩ := d2 sz' rows' hh
      rw [d1]
      exact e3 _ _ e
  | .rp n cs, c, h => by
    simp only [RelA] at h ⊢
    obtain ⟨b, off, cur, T, fr, e1, e2, e3, e4, e5, e6⟩ := h
    obtain ⟨cur', fr', k1, k2, k3, k4, k5⟩ := hk b cur T fr e2
    refine ⟨b, off, cur', T, fr', e1, k1, by omega, by rw [k2]; exact k4 e4, e5, RelL_mono hk _ _ _ e6 fun i hi => ?_⟩
    rw [List.getElem?_drop, List.getElem?_drop]
    have := k5 (off + i) (by omega)
    simpa using this
  | .nilp, c, h => by simpa [RelA] using h
  | .fn f caps, c, h => by
    simp only [RelA] at h ⊢
    obtain ⟨arr, e, e1⟩ := h
    exact ⟨arr, e, RelAs_mono hk hg caps _ e1⟩
  | .nilf, c, h => by simpa [RelA] using h
  | .agg cs, c, h => by
    simp only [RelA] at h ⊢
    obtain ⟨arr, e, e1⟩ := h
    exact ⟨arr, e, RelCells_mono hk hg cs _ e1⟩
  | .tup cs, c, h => by
    simp only [RelA] at h ⊢
    obtain ⟨arr, e, e1⟩ := h
    exact ⟨arr, e, RelAs_mono hk hg cs _ e1⟩
theorem RelAs_mono (hk : Keep K w K' w') (hg : HGo hp g hp' g') : ∀ (vs : List AV) (l : List Value), RelAs fid K w hp g vs l → RelAs fid K' w' hp' g' vs l
  | [], _, h => by simpa [RelAs] using h
  | v :: vs, l, h => by
    simp only [RelAs] at h ⊢
    obtain ⟨c, t, e, e1, e2⟩ := h
    exact ⟨c, t, e, RelA_mono hk hg v c e1, RelAs_mono hk hg vs t e2⟩
theorem RelCells_mono (hk : Keep K w K' w') (hg : HGo hp g hp' g') : ∀ (vs : List AV) (l : List Value), RelCells fid K w hp g vs l → RelCells fid K' w' hp' g' vs l
  | [], _, h => by simpa [RelCells] using h
  | v :: vs, l, h => by
    simp only [RelCells] at h ⊢
    obtain ⟨c, t, e, e1, e2⟩ := h
    exact ⟨c, t, e, ⟨RelA_mono hk hg v c e1.1, e1.2⟩, RelCells_mono hk hg vs t e2⟩
end
theorem RelAs_length : ∀ {vs : List AV} {l : List Value}, RelAs fid K w hp g vs l → l.length = vs.length
  | [], l, h => by simp only [RelAs] at h; subst h; rfl
  | v :: vs, l, h => by
    simp only [RelAs] at h
    obtain ⟨c, t, rfl, _, h2⟩ := h
    simp [RelAs_length h2]
theorem RelCells_length : ∀ {vs : List AV} {l : List Value}, RelCells fid K w hp g vs l → l.length = vs.length
  | [], l, h => by simp only [RelCells] at h; subst h; rfl
  | v :: vs, l, h => by
    simp only [RelCells] at h
    obtain ⟨c, t, rfl, _, h2⟩ := h
    simp [RelCells_length h2]
theorem RelCells_oneCell : ∀ {vs : List AV} {l : List Value}, RelCells fid K w hp g vs l → ∀ c ∈ l, c.oneCell' = true
  | [], l, h, c, hc => by simp only [RelCells] at h; subst h; simp at hc
  | v :: vs, l, h, c, hc => by
    simp only [RelCells] at h
    obtain ⟨c', t, rfl, h1, h2⟩ := h
    rcases List.mem_cons.1 hc with rfl | hc
    · exact h1.2
    · exact RelCells_oneCell h2 c hc
theorem RelCells_get : ∀ {vs : List AV} {l : List Value} (i : Nat) (v : AV), RelCells fid K w hp g vs l → cellA vs i = some v → ∃ c, l[i]? = some c ∧ RelA fid K w hp g v c ∧ c.oneCell' = true
  | [], _, i, v, _, h => by simp [cellA] at h
  | x :: vs, l, 0, v, h, hv => by
    simp only [RelCells] at h
    obtain ⟨c, t, rfl, h1, _⟩ := h
    simp only [cellA, Option.some.injEq] at hv; subst hv
    exact ⟨c, by simp, h1.1, h1.2⟩
  | x :: vs, l, i + 1, v, h, hv => by
    simp only [RelCells] at h
    obtain ⟨c, t, rfl, _, h2⟩ := h
    simp only [cellA] at hv
    obtain ⟨c', e1, e2⟩ := RelCells_get i v h2 hv
    exact ⟨c', by simpa using e1, e2⟩
theorem RelAs_get : ∀ {vs : List AV} {l : List Value} (i : Nat) (v : AV), RelAs fid K w hp g vs l → cellA vs i = some v → ∃ c, l[i]? = some c ∧ RelA fid K w hp g v c
  | [], _, i, v, _, h => by simp [cellA] at h
  | x :: vs, l, 0, v, h, hv => by
    simp only [RelAs] at h
    obtain ⟨c, t, rfl, h1, _⟩ := h
    simp only [cellA, Option.some.injEq] at hv; subst hv
    exact ⟨c, by simp, h1⟩
  | x :: vs, l, i + 1, v, h, hv => by
    simp only [RelAs] at h
    obtain ⟨c, t, rfl, _, h2⟩ := h
    simp only [cellA] at hv
    obtain ⟨c', e1, e2⟩ := RelAs_get i v h2 hv
    exact ⟨c', by simpa using e1, e2⟩
theorem RelAs_append : ∀ {vs us : List AV} {l m : List Value}, RelAs fid K w hp g vs l → RelAs fid K w hp g us m → RelAs fid K w hp g (vs ++ us) (l ++ m)
  | [], us, l, m, h, h2 => by simp only [RelAs] at h; subst h; simpa using h2
  | v :: vs, us, l, m, h, h2 => by
    simp only [RelAs] at h
    obtain ⟨c, t, rfl, h1, h3⟩ := h
    simp only [List.cons_append, RelAs]
    exact ⟨c, _, rfl, h1, RelAs_append h3 h2⟩
theorem RelCells_append : ∀ {vs us : List AV} {l m : List Value}, RelCells fid K w hp g vs l → RelCells fid K w hp g us m → RelCells fid K w hp g (vs ++ us) (l ++ m)
  | [], us, l, m, h, h2 => by simp only [RelCells] at h; subst h; simpa using h2
  | v :: vs, us, l, m, h, h2 => by
    simp only [RelCells] at h
    obtain ⟨c, t, rfl, h1, h3⟩ := h
    simp only [List.cons_append, RelCells]
    exact ⟨c, _, rfl, h1, RelCells_append h3 h2⟩
theorem RelCells_drop : ∀ {vs : List AV} {l : List Value} (i : Nat), RelCells fid K w hp g vs l → RelCells fid K w hp g (vs.drop i) (l.drop i)
  | vs, l, 0, h => h
  | [], l, i + 1, h => by simp only [RelCells] at h; subst h; simp [RelCells]
  | v :: vs, l, i + 1, h => by
    simp only [RelCells] at h
    obtain ⟨c, t, rfl, _, h2⟩ := h
    simpa using RelCells_drop i h2
theorem RelCells_take : ∀ {vs : List AV} {l : List Value} (n : Nat), RelCells fid K w hp g vs l → RelCells fid K w hp g (vs.take n) (l.take n)
  | vs, l, 0, h => by simp [RelCells]
  | [], l, n + 1, h => by simp only [RelCells] at h; subst h; simp [RelCells]
  | v :: vs, l, n + 1, h => by
    simp only [RelCells] at h
    obtain ⟨c, t, rfl, h1, h2⟩ := h
    simp only [List.take_succ_cons, RelCells]
    exact ⟨c, _, rfl, h1, RelCells_take n h2⟩
theorem RelCells_pl : ∀ {cs : List PV} {l : List Value}, RelL K w cs l → l.length = cs.length → RelCells fid K w hp g (cs.map .pl) l
  | [], l, _, hl => by
    have : l = [] := by simpa using hl
    subst this; simp [RelCells]
  | p :: cs, l, h, hl => by
    simp only [RelL] at h
    obtain ⟨c, t, rfl, h1, h2⟩ := h
    simp only [List.map_cons, RelCells, RelA]
    exact ⟨c, t, rfl, ⟨h1, RelP_oneCell h1⟩, RelCells_pl h2 (by simpa using hl)⟩
theorem RelL_of_cells : ∀ {cs : List PV} {l : List Value}, RelCells fid K w hp g (cs.map .pl) l → RelL K w cs l
  | [], l, _ => by simp [RelL]
  | p :: cs, l, h => by
    simp only [List.map_cons, RelCells, RelA] at h
    obtain ⟨c, t, rfl, h1, h2⟩ := h
    simp only [RelL]
    exact ⟨c, t, rfl, h1.1, RelL_of_cells h2⟩
theorem plains_map : ∀ {cs : List AV} {ps : List PV}, plains cs = some ps → cs = ps.map .pl
  | [], ps, h => by simp [plains] at h; subst h; rfl
  | .pl p :: cs, ps, h => by
    simp only [plains] at h
    cases hq : plains cs with
    | none => rw [hq] at h; simp at h
    | some qs => rw [hq] at h; simp at h; subst h; simp [plains_map hq]
  | .undef :: _, _, h | .st _ _ :: _, _, h | .own _ _ :: _, _, h | .ex _ _ :: _, _, h | .ptr _ _ :: _, _, h | .mp _ :: _, _, h | .op _ _ :: _, _, h | .rp _ _ :: _, _, h | .nilp :: _, _, h | .fn _ _ :: _, _, h | .nilf :: _, _, h | .agg _ :: _, _, h | .tup _ :: _, _, h => by simp [plains] at h
theorem RelA_pack {cs : List AV} {arr : Array Value} (h : RelCells fid K w hp g cs arr.toList) : RelA fid K w hp g (pack cs) (.agg arr) := by
  unfold pack
  split
  · rename_i ps e
    have e' := plains_map e
    have hl := RelCells_length h
    subst e'
    simp only [RelA]
    exact ⟨arr, rfl, by simpa using hl, by simp, RelL_of_cells h⟩
  · simp only [RelA]; exact ⟨arr, rfl, h⟩
theorem RelA_cells {v : AV} {arr : Array Value} (h : RelA fid K w hp g v (.agg arr)) (hv : v ≠ .undef) : RelCells fid K w hp g (cellsAV v) arr.toList ∧ arr.size = sizeAV v := by
  cases v with
  | undef => exact absurd rfl hv
  | st n cs =>
    simp only [RelA] at h
    obtain ⟨arr', e, e1, e2, e3⟩ := h
    cases e
    exact ⟨RelCells_pl e3 (by simp; omega), by simp [sizeAV, e1]⟩
  | agg cs =>
    simp only [RelA] at h
    obtain ⟨arr', e, e1⟩ := h
    cases e
    exact ⟨e1, by have := RelCells_length e1; simpa [sizeAV] using this⟩
  | pl p => simp only [RelA] at h; exact absurd (RelP_oneCell h) (by simp [Value.oneCell'])
  | ex sz rows => simp only [RelA] at h; exact absurd (RelP_oneCell h.1) (by simp [Value.oneCell'])
  | own r v => simp only [RelA] at h; obtain ⟨⟨a, n, m, e⟩, _⟩ := h; simp at e
  | op r v => simp only [RelA] at h; obtain ⟨⟨a, e⟩, _⟩ := h; simp at e
  | _ => simp only [RelA] at h; simp at h
end
end Eng

namespace Eng
open Go
theorem beqN {a b : Nat} : Nat.beq a b = true ↔ a = b := ⟨Nat.eq_of_beq_eq_true, fun h => by subst h; exact Nat.beq_refl a⟩
theorem bleN {a b : Nat} : Nat.ble a b = true ↔ a ≤ b := ⟨Nat.le_of_ble_eq_true, Nat.ble_eq_true_of_le⟩
theorem bltN {a b : Nat} : Nat.blt a b = true ↔ a < b := by unfold Nat.blt; exact bleN
def blkV : Value → Option Nat
  | .pointer (some a) => some a.block
  | .slice (some a) _ _ => some a.block
  | .map (some b) => some b
  | _ => none
section
variable (fid : Nat → FuncId) (K : Kom) (w : World) (hp : Heap) (g : Nat → Value)
def RelO (r : Nat) : Obj → Prop
  | .box n v => ∃ b cur T, g r = .pointer (some ⟨b, 0, none⟩) ∧ w.heap[b]? = some (Go.Obj.cells cur T (0, 0)) ∧ cur.size = n ∧ sizeAV v = n ∧ 0 < n ∧ K b = 0 ∧
      RelCells fid K w hp g (cellsAV v) cur.toList
  | .buf sz rows _ => (rows = [] ∧ g r = .slice none 0 0) ∨ ∃ b cap cur T, g r = .slice (some ⟨b, 0, none⟩) rows.length cap ∧
      w.heap[b]? = some (Go.Obj.cells cur T (0, 0)) ∧ cur.size = cap * sz ∧ rows.length ≤ cap ∧ K b = rows.length * sz ∧ RelRows K w sz rows cur.toList
  | .bufo sz rows _ => ∃ b cap cur T, g r = .slice (some ⟨b, 0, none⟩) (rows.length + 1) cap ∧
      w.heap[b]? = some (Go.Obj.cells cur T (0, 0)) ∧ cur.size = cap * sz ∧ rows.length + 1 ≤ cap ∧ K b = rows.length * sz ∧ RelRows K w sz rows cur.toList
  | .set ks => ∃ b es clock, g r = .map (some b) ∧ w.heap[b]? = some (Go.Obj.map es clock) ∧ es.toList.map (·.key) = ks.map (Value.int .i64) ∧ (∀ x ∈ es.toList, x.val = .bool true) ∧ MapKept.Stamped es clock
structure RelH : Prop where
  obj : ∀ r o, lkH hp r = some o → RelO fid K w hp g r o
  sep : ∀ r r' o o' b, r ≠ r' → lkH hp r = some o → lkH hp r' = some o' → blkV (g r) = some b → blkV (g r') ≠ some b
end
def GRel (X : Ctx) (K : Kom) (w : World) : Prop := ∀ i, RelA X.fid K w [] (fun _ => .nilFunc) (X.G i) (.pointer (some ⟨X.gm i, 0, none⟩))
structure Base where
  nt : Nat
  O : Nat → Prop
  K0 : Kom
  w0 : World
  h0 : Heap
  g0 : Nat → Value
structure Fr (O : Nat → Prop) (K0 : Kom) (w0 : World) (K : Kom) (w : World) : Prop where
  os : w.os = w0.os
  tape : w.tape = w0.tape
  output : w.output = w0.output
  size : w0.heap.size ≤ w.heap.size
  blk : ∀ b, b < w0.heap.size → ¬ O b → w.heap[b]? = w0.heap[b]? ∧ K b = K0 b
  keep : Keep K0 w0 K w
def isBox : Obj → Nat
  | .box _ _ => 1
  | .set _ => 2
  | _ => 0
structure RelM (X : Ctx) (B : Base) (hp : Heap) (g : Nat → Value) (K : Kom) (w : World) : Prop where
  rh : RelH X.fid K w hp g
  gl : GRel X K w
  fr : Fr B.O B.K0 B.w0 K w
  own : ∀ r o b, lkH hp r = some o → blkV (g r) = some b → B.O b ∨ B.w0.heap.size ≤ b
  arg : ∀ r o, r < 64 → lkH hp r = some o → ∃ o0, lkH B.h0 r = some o0 ∧ isBox o = isBox o0 ∧ (isBox o ≠ 0 → g r = B.g0 r)
structure RelS (X : Ctx) (B : Base) (s : St) (g : Nat → Value) (K : Kom) (w : World) (a : Act) : Prop where
  env : ∀ t, RelA X.fid K w s.hp g (lkE s.env t) (a.tmps.getD t undef)
  mem : RelM X B s.hp g K w
  df : a.defers = []
  sz : B.nt ≤ a.tmps.size
section chk
variable (X : Ctx)
def chkPs : List PV → List Value → Bool
  | [], [] => true
  | .int k n :: ps, .int k' m :: l => decide (k = k') && decide (n = m) && chkPs ps l
  | .bool b :: ps, .bool b' :: l => decide (b = b') && chkPs ps l
  | .str s :: ps, .string s' :: l => decide (s.data.toList = s'.data.toList) && chkPs ps l
  | .sl _ [] :: ps, .slice none 0 0 :: l => chkPs ps l
  | _, _ => false
def chkAV : AV → Value → Bool
  | .pl p, c => chkPs [p] [c]
  | .nilp, .pointer none => true
  | .nilf, .nilFunc => true
  | .st n cs, .agg arr => decide (arr.size = n) && decide (cs.length = n) && chkPs cs arr.toList
  | .fn f [], .func (.func k) a b => decide (X.fid f = k) && decide (a.size = 0) && decide (b.size = 0)
  | _, _ => false
def chkOpd : Opd → Operand → Bool
  | .t i, .tmp j => decide (i = j)
  | .i n, .const (.int .i64 m) => decide (n = m)
  | .c v, .const c => chkAV X v c
  | .c (.fn f []), .func k => decide (X.fid f = k)
  | .g i, .global j => decide (X.gm i = j)
  | _, _ => false
def chkOpds : List Opd → List Operand → Bool
  | [], [] => true
  | x :: xs, y :: ys => chkOpd X x y && chkOpds xs ys
  | _, _ => false
theorem chkPs_rel {K : Kom} {w : World} : ∀ {ps : List PV} {l : List Value}, chkPs ps l = true → RelL K w ps l ∧ l.length = ps.length
  | [], [], _ => by simp [RelL]
  | .int k n :: ps, .int k' m :: l, h => by
    simp only [chkPs, Bool.and_eq_true, decide_eq_true_eq] at h
    obtain ⟨⟨rfl, rfl⟩, h⟩ := h
    obtain ⟨h1, h2⟩ := chkPs_rel h
    exact ⟨by simp only [RelL]; exact ⟨_, _, rfl, by simp [RelP], h1⟩, by simp [h2]⟩
  | .bool b :: ps, .bool b' :: l, h => by
    simp only [chkPs, Bool.and_eq_true, decide_eq_true_eq] at h
    obtain ⟨rfl, h⟩ := h
    obtain ⟨h1, h2⟩ := chkPs_rel h
    exact ⟨by simp only [RelL]; exact ⟨_, _, rfl, by simp [RelP], h1⟩, by simp [h2]⟩
  | .str s :: ps, .string s' :: l, h => by
    simp only [chkPs, Bool.and_eq_true, decide_eq_true_eq] at h
    obtain ⟨e, h⟩ := h
    obtain ⟨h1, h2⟩ := chkPs_rel h
    have : s = s' := by
      cases s with | mk d => cases s' with | mk d' => cases d; cases d'; simp at e; simp [e]
    subst this
    exact ⟨by simp only [RelL]; exact ⟨_, _, rfl, by simp [RelP], h1⟩, by simp [h2]⟩
  | .sl sz [] :: ps, .slice none 0 0 :: l, h => by
    simp only [chkPs] at h
    obtain ⟨h1, h2⟩ := chkPs_rel h
    exact ⟨by simp only [RelL]; exact ⟨_, _, rfl, by simp only [RelP]; exact ⟨none, 0, by simp, by simp, .inl trivial⟩, h1⟩, by simp [h2]⟩
theorem chkAV_rel {K : Kom} {w : World} {hp : Heap} {g : Nat → Value} {v : AV} {c : Value} (h : chkAV X v c = true) : RelA X.fid K w hp g v c := by
  unfold chkAV at h
  split at h
  · rename_i p c
    obtain ⟨h1, _⟩ := chkPs_rel (K := K) (w := w) h
    simp only [RelL] at h1
    obtain ⟨c', l', e, h1, _⟩ := h1
    simp at e
    simp only [RelA]; rw [e.1]; exact h1
  · simp [RelA]
  · simp [RelA]
  · rename_i n cs arr
    simp only [Bool.and_eq_true, decide_eq_true_eq] at h
    obtain ⟨h1, _⟩ := chkPs_rel (K := K) (w := w) h.2
    simp only [RelA]
    exact ⟨arr, rfl, h.1.1, h.1.2, h1⟩
  · rename_i f k x y
    simp only [Bool.and_eq_true, decide_eq_true_eq] at h
    obtain ⟨⟨rfl, h1⟩, h2⟩ := h
    have e1 : x = #[] := Array.eq_empty_of_size_eq_zero h1
    have e2 : y = #[] := Array.eq_empty_of_size_eq_zero h2
    subst e1; subst e2
    simp only [RelA]
    exact ⟨#[], rfl, by simp [RelAs]⟩
  · simp at h
variable {X} {B : Base} {s : St} {g : Nat → Value} {K : Kom} {w : World} {a : Act}
theorem opd_rel (hs : RelS X B s g K w a) {x : Opd} {y : Operand} (h : chkOpd X x y = true) : RelA X.fid K w s.hp g (opd X.G s.env x) (a.eval y) := by
  unfold chkOpd at h
  split at h
  · simp only [decide_eq_true_eq] at h; subst h
    exact hs.env _
  · simp only [decide_eq_true_eq] at h; subst h
    simp [opd, Act.eval, RelA, RelP]
  · exact chkAV_rel X h
  · simp only [decide_eq_true_eq] at h; subst h
    simp only [opd, Act.eval, RelA]
    exact ⟨#[], rfl, by simp [RelAs]⟩
  · simp only [decide_eq_true_eq] at h; subst h
    have hk : HGo ([] : Heap) (fun _ => Value.nilFunc) s.hp g := by intro r o h; simp [lkH] at h
    exact RelA_mono (Keep.refl K w) hk _ _ (hs.mem.gl _)
  · simp at h
theorem opds_rel (hs : RelS X B s g K w a) : ∀ {xs : List Opd} {ys : List Operand}, chkOpds X xs ys = true → RelAs X.fid K w s.hp g (opds X.G s.env xs) (ys.map a.eval)
  | [], [], _ => by simp [opds, RelAs]
  | x :: xs, y :: ys, h => by
    simp only [chkOpds, Bool.and_eq_true] at h
    simp only [opds, List.map_cons, RelAs]
    exact ⟨_, _, rfl, opd_rel hs h.1, opds_rel hs h.2⟩
end chk
theorem RelA_scalar {fid : Nat → FuncId} {K : Kom} {w : World} {hp : Heap} {g : Nat → Value} {v : AV} {c : Value} (h : RelA fid K w hp g v c) (h1 : sizeAV v = 1) (hv : ∀ n cs, v ≠ .st n cs) (ha : ∀ cs, v ≠ .agg cs) : c.oneCell' = true := by
  cases v with
  | undef => simp [sizeAV] at h1
  | tup vs => simp [sizeAV] at h1
  | st n cs => exact absurd rfl (hv n cs)
  | agg cs => exact absurd rfl (ha cs)
  | pl p => simp only [RelA] at h; exact RelP_oneCell h
  | ex sz rows => simp only [RelA] at h; exact RelP_oneCell h.1
  | own r v => simp only [RelA] at h; obtain ⟨⟨a, n, m, rfl⟩, _⟩ := h; rfl
  | op r v => simp only [RelA] at h; obtain ⟨⟨a, rfl⟩, _⟩ := h; rfl
  | ptr r off => simp only [RelA] at h; obtain ⟨n, v, b, _, _, rfl⟩ := h; rfl
  | rp n cs => simp only [RelA] at h; obtain ⟨b, off, cur, T, fr, rfl, _⟩ := h; rfl
  | mp r => simp only [RelA] at h; obtain ⟨ks, b, _, _, rfl⟩ := h; rfl
  | nilp => simp only [RelA] at h; subst h; rfl
  | fn f caps => simp only [RelA] at h; obtain ⟨arr, rfl, _⟩ := h; rfl
  | nilf => simp only [RelA] at h; subst h; rfl
theorem cells_oneCell {c : Value} (h : c.oneCell' = true) : c.cells = #[c] := by
  cases c <;> first | rfl | simp [Value.oneCell'] at h
theorem RelA_cellsV {fid : Nat → FuncId} {K : Kom} {w : World} {hp : Heap} {g : Nat → Value} {v : AV} {c : Value} (h : RelA fid K w hp g v c) (h0 : 0 < sizeAV v) :
    RelCells fid K w hp g (cellsAV v) c.cells.toList ∧ c.cells.size = sizeAV v := by
  cases v with
  | undef => simp [sizeAV] at h0
  | tup vs => simp [sizeAV] at h0
  | st n cs =>
    have h' := h
    simp only [RelA] at h'
    obtain ⟨arr, rfl, _⟩ := h'
    exact RelA_cells h (by simp)
  | agg cs =>
    have h' := h
    simp only [RelA] at h'
    obtain ⟨arr, rfl, _⟩ := h'
    exact RelA_cells h (by simp)
  | _ =>
    have h1 := RelA_scalar h rfl (by simp) (by simp)
    rw [cells_oneCell h1]
    simp only [cellsAV, RelCells, sizeAV]
    exact ⟨⟨c, [], rfl, ⟨h, h1⟩, rfl⟩, rfl⟩
theorem partOf_rel {fid : Nat → FuncId} {K : Kom} {w : World} {hp : Heap} {g : Nat → Value} {v x : AV} {m off n : Nat} {ag : Bool} {l : List Value} (hp' : partOf v m off n ag = some x)
    (h : RelCells fid K w hp g (cellsAV v) l) (hm : l.length = m) :
    off + n ≤ m ∧ (ag = true → RelA fid K w hp g x (.agg ((l.drop off).take n).toArray)) ∧ (ag = false → n = 1 ∧ ∃ c, l[off]? = some c ∧ RelA fid K w hp g x c) := by
  unfold partOf at hp'
  cases hb : Nat.ble (off + n) m with
  | false => rw [hb] at hp'; simp at hp'
  | true =>
    rw [hb] at hp'
    have hle : off + n ≤ m := Nat.le_of_ble_eq_true hb
    refine ⟨hle, ?_⟩
    simp only [cond_true] at hp'
    cases ag with
    | true =>
      simp only [cond_true] at hp'
      refine ⟨fun _ => ?_, by simp⟩
      cases hq : (Nat.beq off 0 && Nat.beq n m) with
      | true =>
        rw [hq] at hp'
        simp only [Bool.and_eq_true, beqN] at hq
        obtain ⟨rfl, rfl⟩ := hq
        simp only [cond_true] at hp'
        have hl : (List.take n (List.drop 0 l)) = l := by simp [List.take_of_length_le (show l.length ≤ n by omega)]
        rw [hl]
        split at hp'
        · rename_i k cs
          simp only [Option.some.injEq] at hp'; subst hp'
          simp only [cellsAV] at h
          have := RelCells_length h
          simp only [RelA]
          exact ⟨l.toArray, rfl, by simpa using hm, by simp at this; omega, by simpa using RelL_of_cells h⟩
        · rename_i cs
          simp only [Option.some.injEq] at hp'; subst hp'
          exact RelA_pack (by simpa [cellsAV] using h)
        · simp at hp'
      | false =>
        rw [hq] at hp'
        simp only [cond_false] at hp'
        split at hp'
        · rename_i k cs
          simp only [Option.some.injEq] at hp'; subst hp'
          simp only [cellsAV] at h
          have hln := RelCells_length h
          simp at hln
          simp only [RelA]
          refine ⟨_, rfl, by simp; omega, by simp; omega, ?_⟩
          simpa using RelL_take n (RelL_drop off (RelL_of_cells h))
        · rename_i cs
          simp only [Option.some.injEq] at hp'; subst hp'
          refine RelA_pack ?_
          simp only [cellsAV] at h
          simpa using RelCells_take n (RelCells_drop off h)
        · simp at hp'
    | false =>
      simp only [cond_false] at hp'
      refine ⟨by simp, fun _ => ?_⟩
      cases hq : Nat.beq n 1 with
      | false => rw [hq] at hp'; simp at hp'
      | true =>
        rw [hq] at hp'
        simp only [beqN] at hq; subst hq
        simp only [cond_true] at hp'
        refine ⟨rfl, ?_⟩
        split at hp'
        · rename_i k cs
          simp only [Option.some.injEq] at hp'; subst hp'
          simp only [cellsAV] at h
          have hln := RelCells_length h
          simp at hln
          obtain ⟨c, e1, e2⟩ := RelL_get off (RelL_of_cells h) (by omega)
          exact ⟨c, e1, by simpa [RelA] using e2⟩
        · rename_i cs
          simp only [cellsAV] at h
          obtain ⟨c, e1, e2, _⟩ := RelCells_get off x h hp'
          exact ⟨c, e1, e2⟩
        · simp at hp'
        · simp at hp'
        · rename_i hns hna hnu hnt
          cases hq : Nat.beq m 1 with
          | false => rw [hq] at hp'; simp at hp'
          | true =>
            rw [hq] at hp'
            simp only [beqN] at hq; subst hq
            simp only [cond_true, Option.some.injEq] at hp'; subst hp'
            have ho : off = 0 := by omega
            subst ho
            have hc : cellsAV v = [v] := by
              cases v <;> first | rfl | (exact absurd rfl (hns _ _)) | (exact absurd rfl (hna _))
            rw [hc] at h
            simp only [RelCells] at h
            obtain ⟨c, l', rfl, h1, rfl⟩ := h
            exact ⟨c, by simp, h1.1⟩
end Eng

namespace Eng
open Go
def setG (g : Nat → Value) (r : Nat) (v : Value) : Nat → Value := fun x => if x = r then v else g x
def updK (K : Kom) (b n : Nat) : Kom := fun x => if x = b then n else K x
theorem setG_same (g : Nat → Value) (r : Nat) (v : Value) : setG g r v r = v := by simp [setG]
theorem setG_ne (g : Nat → Value) {r x : Nat} (v : Value) (h : x ≠ r) : setG g r v x = g x := by simp [setG, h]
theorem updK_same (K : Kom) (b n : Nat) : updK K b n b = n := by simp [updK]
theorem updK_ne (K : Kom) {b x : Nat} (n : Nat) (h : x ≠ b) : updK K b n x = K x := by simp [updK, h]
theorem lkH_cons_same (r : Nat) (o : Obj) (hp : Heap) : lkH ((r, o) :: hp) r = some o := by simp [lkH]
theorem lkH_cons_ne {r x : Nat} (o : Obj) (hp : Heap) (h : r ≠ x) : lkH ((r, o) :: hp) x = lkH hp x := by
  have : Nat.beq r x = false := by
    cases hb : Nat.beq r x with
    | false => rfl
    | true => exact absurd (beqN.1 hb) h
  simp [lkH, this]
theorem lkE_cons_same (r : Nat) (v : AV) (e : List (Nat × AV)) : lkE ((r, v) :: e) r = v := by simp [lkE]
theorem lkE_cons_ne {r x : Nat} (v : AV) (e : List (Nat × AV)) (h : r ≠ x) : lkE ((r, v) :: e) x = lkE e x := by
  have : Nat.beq r x = false := by
    cases hb : Nat.beq r x with
    | false => rfl
    | true => exact absurd (beqN.1 hb) h
  simp [lkE, this]
section
variable {fid : Nat → FuncId} {K K' : Kom} {w w' : World} {hp hp' : Heap} {g g' : Nat → Value}
theorem HGo.add {r : Nat} {o : Obj} {v : Value} (h : lkH hp r = none) : HGo hp g ((r, o) :: hp) (setG g r v) := by
  intro x o' hx
  have hne : r ≠ x := by intro e; subst e; rw [h] at hx; simp at hx
  have := HGo.refl hp g x o' hx
  have hl : lkH ((r, o) :: hp) x = lkH hp x := lkH_cons_ne o hp hne
  have hc : curV ((r, o) :: hp) x = curV hp x := by simp only [curV, hl]
  have hg : setG g r v x = g x := setG_ne g v (Ne.symm hne)
  cases o' <;> simp only [hl, hc, hg] at this ⊢ <;> exact this
theorem HGo.trans {hp'' : Heap} {g'' : Nat → Value} (h : HGo hp g hp' g') (h' : HGo hp' g' hp'' g'') : HGo hp g hp'' g'' := by
  intro r o hr
  have h1 := h r o hr
  cases o with
  | box n v =>
    obtain ⟨⟨n', v', e⟩, e2⟩ := h1
    obtain ⟨e3, e4⟩ := h' r _ e
    exact ⟨e3, e4.trans e2⟩
  | set ks =>
    obtain ⟨⟨ks', e⟩, e2⟩ := h1
    obtain ⟨e3, e4⟩ := h' r _ e
    exact ⟨e3, e4.trans e2⟩
  | buf sz rows v =>
    obtain ⟨v', e1, e2, e3⟩ := h1
    obtain ⟨v'', f1, f2, f3⟩ := h'.own e1
    refine ⟨v'', f1, by omega, fun e => ?_⟩
    have e' : v' = v := by omega
    have e'' : v'' = v' := by omega
    refine ⟨(f3 e'').trans (e3 e').1, fun sz' rows' hh => ?_⟩
    rcases curV_some e1 with ⟨s1, r1, q⟩ | ⟨s1, r1, q⟩
    · have := h' r _ q
      obtain ⟨u, _, _, q3⟩ := this
      have hu : u = v' := by rename_i q1 _; rw [f1] at q1; simp at q1; omega
      exact (q3 hu).2 sz' rows' (by rw [e']; exact hh)
    · exact (e3 e').2 s1 r1 (by rw [← e']; exact q)
  | bufo sz rows v =>
    obtain ⟨v', e1, e2, e3⟩ := h1
    obtain ⟨v'', f1, f2, f3⟩ := h'.own e1
    refine ⟨v'', f1, by omega, fun e => ?_⟩
    have e' : v' = v := by omega
    have e'' : v'' = v' := by omega
    refine ⟨(f3 e'').trans (e3 e').1, fun sz' rows' hh => ?_⟩
    rcases curV_some e1 with ⟨s1, r1, q⟩ | ⟨s1, r1, q⟩
    · have := h' r _ q
      obtain ⟨u, q1, _, q3⟩ := this
      have hu : u = v' := by rw [f1] at q1; simp at q1; omega
      exact absurd (by rw [e']; exact hh) ((q3 hu).2 sz' rows')
    · have := h' r _ q
      obtain ⟨u, q1, _, q3⟩ := this
      have hu : u = v' := by rw [f1] at q1; simp at q1; omega
      obtain ⟨a1, a2⟩ := (q3 hu).2 sz' rows' (by rw [e']; exact hh)
      obtain ⟨b1, b2⟩ := (e3 e').2 s1 r1 (by rw [← e']; exact q)
      exact ⟨a1.trans b1, a2.trans b2⟩
theorem RelO_mono {r : Nat} {o : Obj} (h : RelO fid K w hp g r o) (hk : Keep K w K' w') (hg : HGo hp g hp' g') (hr : g' r = g r)
    (hb : ∀ b, blkV (g r) = some b → w'.heap[b]? = w.heap[b]? ∧ K' b = K b) : RelO fid K' w' hp' g' r o := by
  cases o with
  | box n v =>
    obtain ⟨b, cur, T, e1, e2, e3, e4, e5, e6, e7⟩ := h
    obtain ⟨b1, b2⟩ := hb b (by rw [e1]; rfl)
    exact ⟨b, cur, T, by rw [hr]; exact e1, by rw [b1]; exact e2, e3, e4, e5, by rw [b2]; exact e6, RelCells_mono hk hg _ _ e7⟩
  | buf sz rows v =>
    rcases h with ⟨e1, e2⟩ | ⟨b, cap, cur, T, e1, e2, e3, e4, e5, e6⟩
    · exact .inl ⟨e1, by rw [hr]; exact e2⟩
    · obtain ⟨b1, b2⟩ := hb b (by rw [e1]; rfl)
      exact .inr ⟨b, cap, cur, T, by rw [hr]; exact e1, by rw [b1]; exact e2, e3, e4, by rw [b2]; exact e5, RelRows_mono hk _ _ _ _ e6 fun _ _ => rfl⟩
  | bufo sz rows v =>
    obtain ⟨b, cap, cur, T, e1, e2, e3, e4, e5, e6⟩ := h
    obtain ⟨b1, b2⟩ := hb b (by rw [e1]; rfl)
    exact ⟨b, cap, cur, T, by rw [hr]; exact e1, by rw [b1]; exact e2, e3, e4, by rw [b2]; exact e5, RelRows_mono hk _ _ _ _ e6 fun _ _ => rfl⟩
  | set ks =>
    obtain ⟨b, es, clock, e1, e2, e3⟩ := h
    obtain ⟨b1, b2⟩ := hb b (by rw [e1]; rfl)
    exact ⟨b, es, clock, by rw [hr]; exact e1, by rw [b1]; exact e2, e3⟩
theorem RelO_lt {r b : Nat} {o : Obj} (h : RelO fid K w hp g r o) (hb : blkV (g r) = some b) : b < w.heap.size := by
  cases o with
  | box n v =>
    obtain ⟨b', cur, T, e1, e2, _⟩ := h
    rw [e1] at hb; simp only [blkV, Option.some.injEq] at hb; subst hb
    exact (Array.getElem?_eq_some_iff.1 e2).1
  | buf sz rows v =>
    rcases h with ⟨e1, e2⟩ | ⟨b', cap, cur, T, e1, e2, _⟩
    · rw [e2] at hb; simp [blkV] at hb
    · rw [e1] at hb; simp only [blkV, Option.some.injEq] at hb; subst hb
      exact (Array.getElem?_eq_some_iff.1 e2).1
  | bufo sz rows v =>
    obtain ⟨b', cap, cur, T, e1, e2, _⟩ := h
    rw [e1] at hb; simp only [blkV, Option.some.injEq] at hb; subst hb
    exact (Array.getElem?_eq_some_iff.1 e2).1
  | set ks =>
    obtain ⟨b', es, clock, e1, e2, _⟩ := h
    rw [e1] at hb; simp only [blkV, Option.some.injEq] at hb; subst hb
    exact (Array.getElem?_eq_some_iff.1 e2).1
end
section
variable {X : Ctx} {B : Base} {K K' : Kom} {w w' : World} {hp hp' : Heap} {g g' : Nat → Value}
theorem RelM.lt (h : RelM X B hp g K w) {r b : Nat} {o : Obj} (hr : lkH hp r = some o) (hb : blkV (g r) = some b) : b < w.heap.size := RelO_lt (h.rh.obj r o hr) hb
theorem RelM.change (h : RelM X B hp g K w) (hk : Keep K w K' w') (hg : HGo hp g hp' g') (hfr : Fr B.O B.K0 B.w0 K' w') (C : Nat → Prop)
    (hsame : ∀ r o, ¬ C r → lkH hp' r = some o → lkH hp r = some o ∧ g' r = g r ∧ ∀ b, blkV (g r) = some b → w'.heap[b]? = w.heap[b]? ∧ K' b = K b)
    (hnew : ∀ r o, C r → lkH hp' r = some o → RelO X.fid K' w' hp' g' r o ∧
      (∀ b, blkV (g' r) = some b → (B.O b ∨ B.w0.heap.size ≤ b) ∧ ∀ r' o', r' ≠ r → lkH hp' r' = some o' → blkV (g' r') ≠ some b) ∧
      (r < 64 → ∃ o0, lkH hp r = some o0 ∧ isBox o = isBox o0 ∧ (isBox o ≠ 0 → g' r = g r))) :
    RelM X B hp' g' K' w' := by
  refine ⟨⟨fun r o hr => ?_, fun r r' o o' b hne hr hr' hb => ?_⟩, fun i => ?_, hfr, fun r o b hr hb => ?_, fun r o h64 hr => ?_⟩
  · by_cases hc : C r
    · exact (hnew r o hc hr).1
    · obtain ⟨a1, a2, a3⟩ := hsame r o hc hr
      exact RelO_mono (h.rh.obj r o a1) hk hg a2 a3
  · by_cases hc : C r
    · exact ((hnew r o hc hr).2.1 b hb).2 r' o' (Ne.symm hne) hr'
    · by_cases hc' : C r'
      · intro hb'
        exact ((hnew r' o' hc' hr').2.1 b hb').2 r o hne hr hb
      · obtain ⟨a1, a2, _⟩ := hsame r o hc hr
        obtain ⟨b1, b2, _⟩ := hsame r' o' hc' hr'
        rw [a2] at hb
        rw [b2]
        exact h.rh.sep r r' o o' b hne a1 b1 hb
  · exact RelA_mono hk (HGo.refl _ _) _ _ (h.gl i)
  · by_cases hc : C r
    · exact ((hnew r o hc hr).2.1 b hb).1
    · obtain ⟨a1, a2, _⟩ := hsame r o hc hr
      rw [a2] at hb
      exact h.own r o b a1 hb
  · by_cases hc : C r
    · obtain ⟨o0, c1, c2, c3⟩ := (hnew r o hc hr).2.2 h64
      obtain ⟨o1, d1, d2, d3⟩ := h.arg r o0 h64 c1
      exact ⟨o1, d1, c2.trans d2, fun e => (c3 e).trans (d3 (by rw [← c2]; exact e))⟩
    · obtain ⟨a1, a2, _⟩ := hsame r o hc hr
      obtain ⟨o1, d1, d2, d3⟩ := h.arg r o h64 a1
      exact ⟨o1, d1, d2, fun e => by rw [a2]; exact d3 e⟩
theorem Fr.step {O : Nat → Prop} {K0 : Kom} {w0 : World} (h : Fr O K0 w0 K w) (hk : Keep K w K' w') (ho : w'.os = w.os) (ht : w'.tape = w.tape) (hu : w'.output = w.output) (hs : w.heap.size ≤ w'.heap.size)
    (hb : ∀ b, b < w0.heap.size → ¬ O b → w'.heap[b]? = w.heap[b]? ∧ K' b = K b) : Fr O K0 w0 K' w' :=
  ⟨ho.trans h.os, ht.trans h.tape, hu.trans h.output, Nat.le_trans h.size hs, fun b hl hn =>
    ⟨(hb b hl hn).1.trans (h.blk b hl hn).1, (hb b hl hn).2.trans (h.blk b hl hn).2⟩, h.keep.trans hk⟩
theorem Keep.alloc (K : Kom) (w : World) (o : Go.Obj) (n : Nat) : Keep K w (updK K w.heap.size n) (w.alloc o) := by
  intro b cur T fr hb
  have hlt := (Array.getElem?_eq_some_iff.1 hb).1
  refine ⟨cur, fr, by rw [heap_alloc_old w o hlt]; exact hb, rfl, ?_, ?_, fun _ _ => rfl⟩
  · rw [updK_ne K n (by omega)]; exact Nat.le_refl _
  · rw [updK_ne K n (by omega)]; exact id
theorem RelM.alloc (h : RelM X B hp g K w) (o : Go.Obj) (n : Nat) : RelM X B hp g (updK K w.heap.size n) (w.alloc o) := by
  refine h.change (Keep.alloc K w o n) (HGo.refl hp g) (h.fr.step (Keep.alloc K w o n) rfl rfl rfl (by simp) fun b hb hO => ?_) (fun _ => False) (fun r o' _ hr => ⟨hr, rfl, fun b hb => ?_⟩) (fun _ _ h => h.elim)
  · have := h.fr.size
    exact ⟨heap_alloc_old w o (show b < w.heap.size by omega), updK_ne K n (by omega)⟩
  · have := h.lt hr hb
    exact ⟨heap_alloc_old w o this, updK_ne K n (by omega)⟩
theorem Keep.drew (K : Kom) (w : World) : Keep K w K w.drew := fun _ cur _ fr h => ⟨cur, fr, h, rfl, Nat.le_refl _, id, fun _ _ => rfl⟩
theorem RelM.drew (h : RelM X B hp g K w) : RelM X B hp g K w.drew :=
  h.change (Keep.drew K w) (HGo.refl hp g) (h.fr.step (Keep.drew K w) rfl rfl rfl (Nat.le_refl _) fun b hb hO => ⟨rfl, rfl⟩) (fun _ => False) (fun r o' _ hr => ⟨hr, rfl, fun b hb => ⟨rfl, rfl⟩⟩) (fun _ _ h => h.elim)
theorem RelM.add (h : RelM X B hp g K w) {r : Nat} {o : Obj} {v : Value} (hr : lkH hp r = none) (h64 : 64 ≤ r) (ho : RelO X.fid K w ((r, o) :: hp) (setG g r v) r o)
    (hb : ∀ b, blkV v = some b → (B.O b ∨ B.w0.heap.size ≤ b) ∧ ∀ r' o', lkH hp r' = some o' → blkV (g r') ≠ some b) : RelM X B ((r, o) :: hp) (setG g r v) K w := by
  refine h.change (Keep.refl K w) (HGo.add hr) h.fr (fun x => x = r) (fun x o' hx hl => ?_) (fun x o' hx hl => ?_)
  · have hne : r ≠ x := fun e => hx e.symm
    rw [lkH_cons_ne o hp hne] at hl
    exact ⟨hl, setG_ne g v hx, fun _ _ => ⟨rfl, rfl⟩⟩
  · subst hx
    rw [lkH_cons_same] at hl
    simp only [Option.some.injEq] at hl; subst hl
    refine ⟨ho, fun b hb' => ?_, fun hlt => by omega⟩
    rw [setG_same] at hb'
    refine ⟨(hb b hb').1, fun r' o' hne hr' => ?_⟩
    rw [lkH_cons_ne _ hp (Ne.symm hne)] at hr'
    rw [setG_ne g v hne]
    exact (hb b hb').2 r' o' hr'
theorem RelM.bufs : ∀ (bs : List (Nat × Nat)) {hp : Heap} {g : Nat → Value}, RelM X B hp g K w → freshAt hp (bufAts bs) = true → distinctN (bufAts bs) = true →
    ∃ g', RelM X B (mkBufs bs ++ hp) g' K w ∧ HGo hp g (mkBufs bs ++ hp) g' ∧ (∀ r sz, (r, sz) ∈ bs → g' r = .slice none 0 0 ∧ lkH (mkBufs bs ++ hp) r = some (.buf sz [] 0)) ∧
      ∀ x, memN (bufAts bs) x = false → g' x = g x ∧ lkH (mkBufs bs ++ hp) x = lkH hp x
  | [], hp, g, h, _, _ => ⟨g, h, HGo.refl hp g, by simp, fun x _ => ⟨rfl, rfl⟩⟩
  | (r, sz) :: bs, hp, g, h, hf, hd => by
    simp only [bufAts, freshAt] at hf
    simp only [bufAts, distinctN, Bool.and_eq_true, Bool.not_eq_true'] at hd
    cases hl : lkH hp r with
    | some o => rw [hl] at hf; simp at hf
    | none =>
      rw [hl] at hf
      simp only [Bool.and_eq_true, bleN] at hf
      obtain ⟨g', h1, h2, h3, h4⟩ := RelM.bufs bs h hf.2 hd.2
      have hr' := h4 r hd.1
      have hnone : lkH (mkBufs bs ++ hp) r = none := by rw [hr'.2]; exact hl
      have hm : RelM X B ((r, .buf sz [] 0) :: (mkBufs bs ++ hp)) (setG g' r (.slice none 0 0)) K w :=
        h1.add hnone hf.1 (.inl ⟨rfl, setG_same _ _ _⟩) (fun b hb => by simp [blkV] at hb)
      refine ⟨_, hm, h2.trans (HGo.add hnone), fun r' sz' hmem => ?_, fun x hx => ?_⟩
      · rcases List.mem_cons.1 hmem with e | hmem
        · cases e
          exact ⟨setG_same _ _ _, lkH_cons_same _ _ _⟩
        · obtain ⟨e1, e2⟩ := h3 r' sz' hmem
          have hne : r ≠ r' := by
            intro e; subst e
            rw [hnone] at e2; simp at e2
          exact ⟨by rw [setG_ne _ _ (Ne.symm hne)]; exact e1, by
            show lkH ((r, _) :: (mkBufs bs ++ hp)) r' = _
            rw [lkH_cons_ne _ _ hne]; exact e2⟩
      · simp only [bufAts, memN] at hx
        cases hb : Nat.beq r x with
        | true => rw [hb] at hx; simp at hx
        | false =>
          rw [hb] at hx
          have hne : r ≠ x := fun e => by rw [beqN.2 e] at hb; simp at hb
          obtain ⟨e1, e2⟩ := h4 x (by simpa using hx)
          exact ⟨by rw [setG_ne _ _ (Ne.symm hne)]; exact e1, by
            show lkH ((r, _) :: (mkBufs bs ++ hp)) x = _
            rw [lkH_cons_ne _ _ hne]; exact e2⟩
theorem RelM.box (h : RelM X B hp g K w) {r n : Nat} {v : AV} {cs : Array Value} {T : TypeId} (hr : lkH hp r = none) (h64 : 64 ≤ r) (hv : RelCells X.fid K w hp g (cellsAV v) cs.toList)
    (hn : sizeAV v = n) (hc : cs.size = n) (h0 : 0 < n) :
    RelM X B ((r, .box n v) :: hp) (setG g r (.pointer (some ⟨w.heap.size, 0, none⟩))) (updK K w.heap.size 0) (w.alloc (.cells cs T)) := by
  refine (h.alloc (.cells cs T) 0).add hr h64 ⟨w.heap.size, cs, T, setG_same _ _ _, heap_alloc_new w _, hc, hn, h0, updK_same _ _ _, ?_⟩ fun b hb => ?_
  · exact RelCells_mono (Keep.alloc K w _ 0) (HGo.add hr) _ _ hv
  · simp only [blkV, Option.some.injEq] at hb
    subst hb
    refine ⟨.inr h.fr.size, fun r' o' hr' hb' => ?_⟩
    have := h.lt hr' hb'
    omega
end
end Eng

namespace Eng
open Go
section chk
variable (X : Ctx)
def szIs (t : TypeId) (n : Nat) : Bool := match X.P.info? t with
  | some i => decide (i.size = n)
  | none => false
def aggIs (t : TypeId) (ag : Bool) : Bool := match X.P.underlying t with
  | some (.struct _) => ag
  | some (.array _ _) => ag
  | some _ => !ag
  | none => false
def elemIs (t : TypeId) (sz : Nat) : Bool := match X.P.underlying t with
  | some (.slice e) => szIs X e sz
  | _ => false
end chk
section
variable {X : Ctx} {w : World}
theorem run_size {t : TypeId} {n : Nat} (h : szIs X t n = true) : (Go.sizeOf t).run X.P w = Result.ok n w := by
  unfold szIs at h
  cases hq : X.P.info? t with
  | none => rw [hq] at h; simp at h
  | some i =>
    rw [hq] at h
    simp only [decide_eq_true_eq] at h
    simp [Go.sizeOf, typeInfo, hq, h]
theorem run_agg {t : TypeId} {ag : Bool} (h : aggIs X t ag = true) : (isAgg t).run X.P w = Result.ok ag w := by
  unfold aggIs at h
  cases hq : X.P.underlying t with
  | none => rw [hq] at h; simp at h
  | some d =>
    rw [hq] at h
    simp only [isAgg, Sem.run_bind, run_underlying hq, Result.andThen_ok]
    cases d <;> simp_all
theorem run_loadVar_agg {t : TypeId} {n b off : Nat} {cur : Array Value} {T : TypeId} {fr : Nat × Nat} (hs : szIs X t n = true) (ha : aggIs X t true = true)
    (hb : w.heap[b]? = some (Go.Obj.cells cur T fr)) (hle : off + n ≤ cur.size) :
    (loadVar t ⟨b, off, none⟩).run X.P w = .ok (.agg ((cur.toList.drop off).take n).toArray) w := by
  have hl : (loadCells ⟨b, off, none⟩ ((cur.toList.drop off).take n).length).run X.P w = .ok ((cur.toList.drop off).take n).toArray w :=
    run_loadCells_list (P := X.P) w ⟨b, off, none⟩ _ fun j v hv => by
      have hadd : (⟨b, off, none⟩ : Addr).add j = ⟨b, off + j, none⟩ := by unfold Addr.add; split <;> simp_all
      rw [hadd, cell_of_row w b (off + j) cur T fr hb]
      rw [List.getElem?_take] at hv
      split at hv
      · rw [List.getElem?_drop] at hv; simpa using hv
      · simp at hv
  have hlen : ((cur.toList.drop off).take n).length = n := by simp; omega
  rw [hlen] at hl
  simp only [loadVar, Sem.run_bind, run_agg ha, run_size hs, Result.andThen_ok, if_true, hl]
  rfl
theorem run_loadVar_one {t : TypeId} {b off : Nat} {cur : Array Value} {T : TypeId} {fr : Nat × Nat} {c : Value} (ha : aggIs X t false = true)
    (hb : w.heap[b]? = some (Go.Obj.cells cur T fr)) (hc : cur[off]? = some c) : (loadVar t ⟨b, off, none⟩).run X.P w = .ok c w := by
  have : w.cell? ⟨b, off, none⟩ = some c := by rw [cell_of_row w b off cur T fr hb, hc]
  simp [loadVar, Sem.run_bind, run_agg ha, this]
theorem run_storeVar {t : TypeId} {n b off : Nat} {cur : Array Value} {T : TypeId} {c : Value} (hs : szIs X t n = true) (hn : c.cells.size = n)
    (hb : w.heap[b]? = some (Go.Obj.cells cur T (0, 0))) (hle : off + n ≤ cur.size) (h1 : ∀ v ∈ c.cells.toList, v.oneCell' = true) :
    (storeVar t ⟨b, off, none⟩ c).run X.P w = .ok () (w.setRow b (cur.toList.take off ++ c.cells.toList ++ cur.toList.drop (off + n)).toArray) := by
  have hst := run_storeCells_at X.P b off T c.cells.toList 0 cur w hb (by simp; omega) h1
  simp only [Nat.add_zero, Array.length_toList, hn] at hst
  simp only [storeVar, Sem.run_bind, run_size hs, Result.andThen_ok, hn, ne_eq, not_true_eq_false, if_false]
  exact hst
end
section
variable {X : Ctx} {B : Base} {s : St} {g : Nat → Value} {K : Kom} {w : World} {a : Act}
def OpRun (X : Ctx) (B : Base) (hp : Heap) (g : Nat → Value) (K : Kom) (w : World) (a : Act) (o : Oper) (v : AV) (upd : Heap) : Prop :=
  ∃ c w' K' g', ((execOp a.eval o).run X.P w = .ok (.value c) w' ∨ (execOp a.eval o).run X.P w = .ok .skip w' ∧ c = undef) ∧
    RelM X B (upd ++ hp) g' K' w' ∧ Keep K w K' w' ∧ HGo hp g (upd ++ hp) g' ∧ RelA X.fid K' w' (upd ++ hp) g' v c
theorem OpRun.still {o : Oper} {v : AV} {c : Value} (hs : RelS X B s g K w a) (hr : (execOp a.eval o).run X.P w = .ok (.value c) w) (h : RelA X.fid K w s.hp g v c) : OpRun X B s.hp g K w a o v [] :=
  ⟨c, w, K, g, .inl hr, hs.mem, Keep.refl K w, HGo.refl _ _, h⟩
theorem run_mov (hs : RelS X B s g K w a) {o : Oper} {x : Opd} {y : Operand} (ho : o.op = .move y ∨ o.op = .assign y) (hc : chkOpd X x y = true) : OpRun X B s.hp g K w a o (opd X.G s.env x) [] := by
  refine OpRun.still hs ?_ (opd_rel hs hc)
  rcases ho with ho | ho <;> simp [execOp, ho]
theorem run_nilb (hs : RelS X B s g K w a) {o : Oper} {r sz : Nat} (ho : o.op = .move (.const (.slice none 0 0)) ∨ o.op = .assign (.const (.slice none 0 0))) (hf : freshAt s.hp [r] = true) :
    OpRun X B s.hp g K w a o (.own r 0) [(r, .buf sz [] 0)] := by
  simp only [freshAt] at hf
  cases hl : lkH s.hp r with
  | some o => rw [hl] at hf; simp at hf
  | none =>
    rw [hl] at hf
    simp only [Bool.and_true, bleN] at hf
    have hm : RelM X B ((r, .buf sz [] 0) :: s.hp) (setG g r (.slice none 0 0)) K w :=
      hs.mem.add hl hf (.inl ⟨rfl, setG_same _ _ _⟩) (fun b hb => by simp [blkV] at hb)
    refine ⟨.slice none 0 0, w, K, _, .inl ?_, hm, Keep.refl K w, HGo.add hl, ?_⟩
    · rcases ho with ho | ho <;> simp [execOp, ho, Act.eval]
    · simp only [RelA, List.cons_append, List.nil_append]
      exact ⟨⟨_, _, _, rfl⟩, 0, curV_buf (lkH_cons_same _ _ _), Nat.le_refl _, fun _ => (setG_same _ _ _).symm⟩
theorem run_pick (hs : RelS X B s g K w a) {o : Oper} {x y z : Opd} {x' y' z' : Operand} (ho : o.op = .pick x' y' z') (hx : chkOpd X x x' = true) (hy : chkOpd X y y' = true) (hz : chkOpd X z z' = true)
    {b : Bool} (hb : opd X.G s.env x = .pl (.bool b)) : OpRun X B s.hp g K w a o (bif b then opd X.G s.env y else opd X.G s.env z) [] := by
  have h1 := opd_rel hs hx
  rw [hb] at h1
  simp only [RelA, RelP] at h1
  refine OpRun.still hs (c := if b then a.eval y' else a.eval z') ?_ ?_
  · simp [execOp, ho, h1, asBool]
  · cases b
    · simpa using opd_rel hs hz
    · simpa using opd_rel hs hy
theorem run_box (hs : RelS X B s g K w a) {o : Oper} {r n : Nat} {x : Opd} {t : TypeId} {y : Operand} (ho : o.op = .box t y) (hx : chkOpd X x y = true) (hf : freshAt s.hp [r] = true)
    (hn : sizeAV (opd X.G s.env x) = n) (h0 : 0 < n) : OpRun X B s.hp g K w a o (.ptr r 0) [(r, .box n (opd X.G s.env x))] := by
  simp only [freshAt] at hf
  cases hl : lkH s.hp r with
  | some o => rw [hl] at hf; simp at hf
  | none =>
    rw [hl] at hf
    simp only [Bool.and_true, bleN] at hf
    obtain ⟨h1, h2⟩ := RelA_cellsV (opd_rel hs hx) (by omega)
    have hm := hs.mem.box (T := t) hl hf h1 hn (by omega) h0
    refine ⟨.pointer (some ⟨w.heap.size, 0, none⟩), _, _, _, .inl ?_, hm, Keep.alloc K w _ 0, HGo.add hl, ?_⟩
    · simp only [execOp, ho, Instr.box, newVar, newRow, Sem.run_bind, Result.andThen_ok, run_newObj, Sem.run_pure]
      rfl
    · simp only [RelA, List.cons_append, List.nil_append]
      exact ⟨n, _, w.heap.size, lkH_cons_same _ _ _, setG_same _ _ _, rfl⟩
def isSc : AV → Bool
  | .pl _ => true
  | .nilp => true
  | .nilf => true
  | _ => false
def chkZ (bs : List (Nat × Nat)) : List AV → List Value → Bool
  | [], [] => true
  | .own r v :: zs, .slice none 0 0 :: l => decide (v = 0) && memN (bufAts bs) r && chkZ bs zs l
  | z :: zs, c :: l => chkAV X z c && isSc z && chkZ bs zs l
  | _, _ => false
theorem memN_bufs : ∀ {bs : List (Nat × Nat)} {r : Nat}, memN (bufAts bs) r = true → ∃ sz, (r, sz) ∈ bs
  | [], r, h => by simp [bufAts, memN] at h
  | (r', sz) :: bs, r, h => by
    simp only [bufAts, memN] at h
    cases hb : Nat.beq r' r with
    | true => rw [beqN] at hb; subst hb; exact ⟨sz, by simp⟩
    | false =>
      rw [hb] at h
      obtain ⟨sz', h'⟩ := memN_bufs (by simpa using h)
      exact ⟨sz', by simp [h']⟩
theorem chkZ_rel {hp : Heap} {g : Nat → Value} {bs : List (Nat × Nat)} (hb : ∀ r sz, (r, sz) ∈ bs → g r = .slice none 0 0 ∧ lkH hp r = some (.buf sz [] 0)) :
    ∀ {zs : List AV} {l : List Value}, chkZ (X := X) bs zs l = true → RelCells X.fid K w hp g zs l
  | [], [], _ => by simp [RelCells]
  | z :: zs, c :: l, h => by
    have key : (∃ r, z = .own r 0 ∧ c = .slice none 0 0 ∧ memN (bufAts bs) r = true ∧ chkZ (X := X) bs zs l = true) ∨ (chkAV X z c = true ∧ isSc z = true ∧ chkZ (X := X) bs zs l = true) := by
      unfold chkZ at h
      split at h
      · rename_i h1 h2; simp at h1
      · rename_i r v zs' l' h1 h2
        simp only [List.cons.injEq] at h1 h2
        obtain ⟨rfl, rfl⟩ := h1
        obtain ⟨rfl, rfl⟩ := h2
        simp only [Bool.and_eq_true, decide_eq_true_eq] at h
        exact .inl ⟨r, by rw [h.1.1], rfl, h.1.2, h.2⟩
      · rename_i z' zs' c' l' _ h1 h2
        simp only [List.cons.injEq] at h1 h2
        obtain ⟨rfl, rfl⟩ := h1
        obtain ⟨rfl, rfl⟩ := h2
        simp only [Bool.and_eq_true, decide_eq_true_eq] at h
        exact .inr ⟨h.1.1, h.1.2, h.2⟩
      · simp at h
    simp only [RelCells]
    rcases key with ⟨r, rfl, rfl, h1, h2⟩ | ⟨h1, h2, h3⟩
    · obtain ⟨sz, hm⟩ := memN_bufs h1
      obtain ⟨e1, e2⟩ := hb r sz hm
      refine ⟨_, _, rfl, ⟨?_, rfl⟩, chkZ_rel hb h2⟩
      simp only [RelA]
      exact ⟨⟨_, _, _, rfl⟩, 0, curV_buf e2, Nat.le_refl _, fun _ => e1.symm⟩
    · have hr : RelA X.fid K w hp g z c := chkAV_rel X h1
      refine ⟨_, _, rfl, ⟨hr, ?_⟩, chkZ_rel hb h3⟩
      cases z <;> first | (simp [isSc] at h2; done) | exact RelA_scalar hr rfl (by simp) (by simp)
  | [], _ :: _, h => by simp [chkZ] at h
  | _ :: _, [], h => by simp [chkZ] at h
end
end Eng

namespace Eng
open Go
section
variable {X : Ctx} {B : Base} {s : St} {g : Nat → Value} {K : Kom} {w : World} {a : Act}
theorem fresh_cons {hp : Heap} {r : Nat} {l : List Nat} (h : freshAt hp (r :: l) = true) : lkH hp r = none ∧ 64 ≤ r ∧ freshAt hp l = true := by
  simp only [freshAt] at h
  cases hl : lkH hp r with
  | some o => rw [hl] at h; simp at h
  | none =>
    rw [hl] at h
    simp only [Bool.and_eq_true, bleN] at h
    exact ⟨rfl, h.1, h.2⟩
theorem run_alloc (hs : RelS X B s g K w a) {o : Oper} {r n : Nat} {z : AV} {bs : List (Nat × Nat)} {t : TypeId} {i : TypeInfo} {zv : Value} (ho : o.op = .alloc t) (hi : X.P.info? t = some i) (hz : i.zero = some zv)
    (hc : chkZ (X := X) bs (cellsAV z) zv.cells.toList = true) (hf : freshAt s.hp (r :: bufAts bs) = true) (hd : distinctN (r :: bufAts bs) = true) (hn : sizeAV z = n) (hcl : (cellsAV z).length = n) (h0 : 0 < n) :
    OpRun X B s.hp g K w a o (.ptr r 0) ((r, .box n z) :: mkBufs bs) := by
  obtain ⟨h1, h2, h3⟩ := fresh_cons hf
  simp only [distinctN, Bool.and_eq_true, Bool.not_eq_true'] at hd
  obtain ⟨g1, hm1, hg1, hb1, hx1⟩ := hs.mem.bufs bs h3 hd.2
  obtain ⟨e1, e2⟩ := hx1 r hd.1
  have hz' : RelCells X.fid K w (mkBufs bs ++ s.hp) g1 (cellsAV z) zv.cells.toList := chkZ_rel hb1 hc
  have hlen : zv.cells.size = n := by
    have := RelCells_length hz'
    simpa [hcl] using this
  have hm := hm1.box (T := t) (cs := zv.cells) (by rw [e2]; exact h1) h2 hz' hn hlen h0
  refine ⟨.pointer (some ⟨w.heap.size, 0, none⟩), _, _, _, .inl ?_, hm, Keep.alloc K w _ 0, hg1.trans (HGo.add (by rw [e2]; exact h1)), ?_⟩
  · simp only [execOp, ho, Instr.alloc, zeroValue, typeInfo, Sem.run_bind, Result.andThen_ok, run_program, hi, hz, newVar, newRow, run_newObj, Sem.run_pure]
    rfl
  · simp only [RelA, List.cons_append]
    exact ⟨n, _, w.heap.size, lkH_cons_same _ _ _, setG_same _ _ _, rfl⟩
theorem run_load_ptr (hs : RelS X B s g K w a) {o : Oper} {n r off m : Nat} {ag : Bool} {x : Opd} {y : Operand} {t : TypeId} {v u : AV} (ho : o.op = .load t y) (hx : chkOpd X x y = true)
    (hsz : szIs X t n = true) (hag : aggIs X t ag = true) (hv : opd X.G s.env x = .ptr r off) (hl : lkH s.hp r = some (.box m v)) (hp : partOf v m off n ag = some u) :
    OpRun X B s.hp g K w a o u [] := by
  have h1 := opd_rel hs hx
  rw [hv] at h1
  simp only [RelA] at h1
  obtain ⟨n', v', b, e1, e2, e3⟩ := h1
  obtain ⟨b', cur, T, f1, f2, f3, f4, f5, f6, f7⟩ := hs.mem.rh.obj r _ hl
  rw [e2] at f1
  simp only [Value.pointer.injEq, Option.some.injEq, Addr.mk.injEq, and_true] at f1
  subst f1
  obtain ⟨g1, g2, g3⟩ := partOf_rel hp f7 (by simpa using f3)
  have hle : off + n ≤ cur.size := by omega
  cases ag with
  | true =>
    refine OpRun.still hs ?_ (g2 rfl)
    simp only [execOp, ho, Instr.loadAt, e3, Instr.sureAddr, Sem.run_bind, Sem.run_pure, Result.andThen_ok, run_loadVar_agg hsz hag f2 hle]
  | false =>
    obtain ⟨rfl, c, k1, k2⟩ := g3 rfl
    refine OpRun.still hs (c := c) ?_ k2
    simp only [execOp, ho, Instr.loadAt, e3, Instr.sureAddr, Sem.run_bind, Sem.run_pure, Result.andThen_ok, run_loadVar_one hag f2 (by simpa using k1)]
theorem run_load_rp (hs : RelS X B s g K w a) {o : Oper} {n m : Nat} {ag : Bool} {x : Opd} {y : Operand} {t : TypeId} {cs : List PV} (ho : o.op = .load t y) (hx : chkOpd X x y = true)
    (hsz : szIs X t n = true) (hag : aggIs X t ag = true) (hv : opd X.G s.env x = .rp m cs) (hn : n ≤ m) (h1 : ag = true ∨ n = 1) :
    OpRun X B s.hp g K w a o (bif ag then .st n (bif Nat.beq n m then cs else cs.take n) else .pl (cellN cs 0)) [] := by
  have h2 := opd_rel hs hx
  rw [hv] at h2
  simp only [RelA] at h2
  obtain ⟨b, off, cur, T, fr, e1, e2, e3, e4, e5, e6⟩ := h2
  have hlen := RelL_length e6
  simp only [List.length_drop, Array.length_toList] at hlen
  have hle : off + n ≤ cur.size := by omega
  cases ag with
  | true =>
    refine OpRun.still hs (c := .agg ((cur.toList.drop off).take n).toArray) ?_ ?_
    · simp only [execOp, ho, Instr.loadAt, e1, Instr.sureAddr, Sem.run_bind, Sem.run_pure, Result.andThen_ok, run_loadVar_agg hsz hag e2 hle]
    · simp only [cond_true, RelA]
      refine ⟨_, rfl, by simp; omega, ?_, ?_⟩
      · cases hb : Nat.beq n m with
        | true => rw [beqN] at hb; simp; omega
        | false => simp; omega
      · cases hb : Nat.beq n m with
        | true =>
          rw [beqN] at hb
          have := RelL_take n e6
          rw [List.take_of_length_le (by omega)] at this
          simpa using this
        | false => simpa using RelL_take n e6
  | false =>
    have h1' : n = 1 := by simpa using h1
    subst h1'
    by_cases hm : m = 0
    · omega
    · obtain ⟨c, k1, k2⟩ := RelL_get 0 e6 (by omega)
      refine OpRun.still hs (c := c) ?_ (by simpa [RelA] using k2)
      rw [List.getElem?_drop] at k1
      simp only [execOp, ho, Instr.loadAt, e1, Instr.sureAddr, Sem.run_bind, Sem.run_pure, Result.andThen_ok, run_loadVar_one hag e2 (by simpa using k1)]
theorem putN_zero {α : Type} (l ps : List α) : putN l 0 ps = ps ++ l.drop ps.length := by cases l <;> rfl
theorem putN_rel {fid : Nat → FuncId} {hp : Heap} : ∀ {vs us : List AV} {l m : List Value} (off : Nat), RelCells fid K w hp g vs l → RelCells fid K w hp g us m → off + us.length ≤ vs.length →
    RelCells fid K w hp g (putN vs off us) (l.take off ++ m ++ l.drop (off + m.length)) ∧ (putN vs off us).length = vs.length
  | vs, us, l, m, 0, h, h2, hle => by
    have e := RelCells_length h2
    rw [putN_zero]
    simp only [List.take_zero, List.nil_append, Nat.zero_add, e]
    exact ⟨RelCells_append h2 (RelCells_drop _ h), by simp; omega⟩
  | [], us, l, m, off + 1, h, h2, hle => by simp at hle
  | v :: vs, us, l, m, off + 1, h, h2, hle => by
    simp only [RelCells] at h
    obtain ⟨c, t, rfl, h1, h3⟩ := h
    obtain ⟨r1, r2⟩ := putN_rel off h3 h2 (by simp at hle; omega)
    simp only [putN, List.take_succ_cons, List.cons_append, RelCells, List.length_cons]
    refine ⟨⟨c, _, rfl, h1, ?_⟩, by omega⟩
    have e : off + 1 + m.length = (off + m.length) + 1 := by omega
    rw [e, List.drop_succ_cons]
    exact r1
theorem putN_map {α β : Type} (f : α → β) : ∀ (l : List α) (off : Nat) (ps : List α), (putN l off ps).map f = putN (l.map f) off (ps.map f)
  | l, 0, ps => by rw [putN_zero, putN_zero]; simp
  | [], off + 1, ps => rfl
  | x :: l, off + 1, ps => by simp only [putN, List.map_cons, putN_map f l off ps]
theorem putAV_rel {fid : Nat → FuncId} {hp : Heap} {v x v' : AV} {m off n : Nat} {l : List Value} {c : Value} (hput : putAV v m off n x = some v') (hv : sizeAV v = m) (hl : l.length = m)
    (h : RelCells fid K w hp g (cellsAV v) l) (hx : RelA fid K w hp g x c) :
    c.cells.size = n ∧ off + n ≤ m ∧ sizeAV v' = m ∧ (∀ u ∈ c.cells.toList, u.oneCell' = true) ∧ RelCells fid K w hp g (cellsAV v') (l.take off ++ c.cells.toList ++ l.drop (off + n)) := by
  unfold putAV at hput
  cases hb : (Nat.beq (sizeAV x) n && Nat.ble (off + n) m && Nat.blt 0 n) with
  | false => rw [hb] at hput; simp at hput
  | true =>
    rw [hb] at hput
    simp only [Bool.and_eq_true, beqN, bleN, bltN] at hb
    obtain ⟨⟨b1, b2⟩, b3⟩ := hb
    obtain ⟨r1, r2⟩ := RelA_cellsV hx (by omega)
    have hone := RelCells_oneCell r1
    refine ⟨by omega, b2, ?_⟩
    simp only [cond_true] at hput
    cases hq : (Nat.beq off 0 && Nat.beq n m) with
    | true =>
      rw [hq] at hput
      simp only [Bool.and_eq_true, beqN] at hq
      obtain ⟨rfl, rfl⟩ := hq
      simp only [cond_true, Option.some.injEq] at hput
      subst hput
      refine ⟨b1, hone, ?_⟩
      have : l.drop (0 + n) = [] := by simp; omega
      simp only [List.take_zero, List.nil_append, this, List.append_nil]
      exact r1
    | false =>
      rw [hq] at hput
      simp only [cond_false] at hput
      have hcl : c.cells.toList.length = n := by simp; omega
      split at hput
      · rename_i k cs p
        simp only [Option.some.injEq] at hput; subst hput
        simp only [cellsAV] at h r1 ⊢
        have hln := RelCells_length h
        simp at hln
        have hxl : 1 = n := b1
        obtain ⟨s1, s2⟩ := putN_rel off h r1 (by simp; omega)
        rw [hcl] at s1
        refine ⟨rfl, hone, ?_⟩
        rw [putN_map]
        simpa using s1
      · rename_i k cs k' ps
        simp only [Option.some.injEq] at hput; subst hput
        simp only [cellsAV] at h r1 ⊢
        have hln := RelCells_length h
        have hln2 := RelCells_length r1
        simp at hln hln2
        obtain ⟨s1, s2⟩ := putN_rel off h r1 (by simp; omega)
        rw [hcl] at s1
        refine ⟨rfl, hone, ?_⟩
        rw [putN_map]
        simpa using s1
      · rename_i k cs _ _
        simp only [Option.some.injEq] at hput; subst hput
        have hc : cellsAV (AV.st k cs) = cs.map .pl := rfl
        rw [hc] at h
        show sizeAV (AV.agg (putN (cs.map .pl) off (cellsAV x))) = m ∧ _ ∧ RelCells fid K w hp g (putN (cs.map .pl) off (cellsAV x)) _
        have hln := RelCells_length h
        have hln2 := RelCells_length r1
        simp at hln hln2
        obtain ⟨s1, s2⟩ := putN_rel off h r1 (by simp; omega)
        rw [hcl] at s1
        refine ⟨by simp only [sizeAV]; rw [s2]; simp; omega, hone, s1⟩
      · rename_i cs
        simp only [Option.some.injEq] at hput; subst hput
        have hc : cellsAV (AV.agg cs) = cs := rfl
        rw [hc] at h
        show sizeAV (AV.agg (putN cs off (cellsAV x))) = m ∧ _ ∧ RelCells fid K w hp g (putN cs off (cellsAV x)) _
        simp only [sizeAV] at hv
        have hln := RelCells_length h
        have hln2 := RelCells_length r1
        simp at hln hln2
        obtain ⟨s1, s2⟩ := putN_rel off h r1 (by omega)
        rw [hcl] at s1
        refine ⟨by simp only [sizeAV]; rw [s2]; omega, hone, s1⟩
      · simp at hput
theorem setRow_ne (w : World) (b b' : Nat) (cs : Array Value) (h : b' ≠ b) : (w.setRow b cs).heap[b']? = w.heap[b']? := setRow_other w b b' cs h
theorem Keep.setRow {b n : Nat} {cur cs : Array Value} {T : TypeId} (hb : w.heap[b]? = some (Go.Obj.cells cur T (0, 0))) (hs : cs.size = cur.size) (hn : K b ≤ n) (hnc : n ≤ cur.size) (hk : ∀ i, i < K b → cs[i]? = cur[i]?) :
    Keep K w (updK K b n) (w.setRow b cs) := by
  intro b' cur' T' fr' hb'
  by_cases e : b' = b
  · subst e
    rw [hb] at hb'
    simp only [Option.some.injEq, Go.Obj.cells.injEq] at hb'
    obtain ⟨rfl, rfl, rfl⟩ := hb'
    refine ⟨cs, (0, 0), setRow_heap w b' cur cs T (0, 0) hb, hs, by rw [updK_same]; exact hn, fun _ => by rw [updK_same]; exact hnc, hk⟩
  · exact ⟨cur', fr', by rw [setRow_ne w b b' cs e]; exact hb', rfl, by rw [updK_ne K n e]; exact Nat.le_refl _, fun h => by rw [updK_ne K n e]; exact h, fun _ _ => rfl⟩
theorem Fr.setRow {O : Nat → Prop} {K0 : Kom} {w0 : World} (h : Fr O K0 w0 K w) {b n : Nat} {cs : Array Value} (hk : Keep K w (updK K b n) (w.setRow b cs)) (hb : O b ∨ w0.heap.size ≤ b) : Fr O K0 w0 (updK K b n) (w.setRow b cs) := by
  refine h.step hk rfl rfl rfl (by simp) fun b' hl hn => ?_
  have hne : b' ≠ b := by rintro rfl; rcases hb with hb | hb; exact hn hb; omega
  exact ⟨setRow_ne w b b' cs hne, updK_ne K n hne⟩
theorem run_store_ptr (hs : RelS X B s g K w a) {o : Oper} {n r off m : Nat} {x u : Opd} {y z : Operand} {t : TypeId} {v v' : AV} (ho : o.op = .store t y z) (hx : chkOpd X x y = true) (hu : chkOpd X u z = true)
    (hsz : szIs X t n = true) (hv : opd X.G s.env x = .ptr r off) (hl : lkH s.hp r = some (.box m v)) (hp : putAV v m off n (opd X.G s.env u) = some v') :
    OpRun X B s.hp g K w a o .undef [(r, .box m v')] := by
  have h1 := opd_rel hs hx
  rw [hv] at h1
  simp only [RelA] at h1
  obtain ⟨n', v1, b, e1, e2, e3⟩ := h1
  obtain ⟨b', cur, T, f1, f2, f3, f4, f5, f6, f7⟩ := hs.mem.rh.obj r _ hl
  rw [e2] at f1
  simp only [Value.pointer.injEq, Option.some.injEq, Addr.mk.injEq, and_true] at f1
  subst f1
  obtain ⟨p1, p2, p3, p4, p5⟩ := putAV_rel hp f4 (by simpa using f3) f7 (opd_rel hs hu)
  have hle : off + n ≤ cur.size := by omega
  have hrun := run_storeVar (X := X) (w := w) hsz p1 f2 hle p4
  generalize hcs : (cur.toList.take off ++ (a.eval z).cells.toList ++ cur.toList.drop (off + n)).toArray = cs at hrun
  have hcl : cs.toList = cur.toList.take off ++ (a.eval z).cells.toList ++ cur.toList.drop (off + n) := by rw [← hcs]
  have hsize : cs.size = cur.size := by
    rw [← Array.length_toList, hcl]; simp; omega
  have hk : Keep K w (updK K b (K b)) (w.setRow b cs) := Keep.setRow f2 hsize (Nat.le_refl _) (by omega) (by rw [f6]; intro i hi; omega)
  have hK : updK K b (K b) = K := by funext x; by_cases e : x = b <;> simp [updK, e]
  have hg : HGo s.hp g ((r, .box m v') :: s.hp) g := by
    intro x o' hx'
    by_cases e : r = x
    · subst e
      rw [hl] at hx'
      simp only [Option.some.injEq] at hx'; subst hx'
      exact ⟨⟨m, v', lkH_cons_same _ _ _⟩, rfl⟩
    · have := HGo.refl s.hp g x o' hx'
      have hl' : lkH ((r, .box m v') :: s.hp) x = lkH s.hp x := lkH_cons_ne _ _ e
      have hc : curV ((r, .box m v') :: s.hp) x = curV s.hp x := by simp only [curV, hl']
      cases o' <;> simp only [hl', hc] at this ⊢ <;> exact this
  refine ⟨undef, w.setRow b cs, updK K b (K b), g, .inr ⟨?_, rfl⟩, ?_, hk, hg, by simp [RelA]⟩
  · simp only [execOp, ho, Instr.storeAt, e3, Instr.sureAddr, Sem.run_bind, Sem.run_pure, Result.andThen_ok, hrun]
  · refine hs.mem.change hk hg (hs.mem.fr.setRow hk (hs.mem.own r _ b hl (by rw [e2]; rfl))) (fun x => x = r) (fun x o' hx' hl' => ?_) (fun x o' hx' hl' => ?_)
    · have hne : r ≠ x := fun e => hx' e.symm
      simp only [List.cons_append, List.nil_append] at hl'
      rw [lkH_cons_ne _ _ hne] at hl'
      refine ⟨hl', rfl, fun b' hb' => ?_⟩
      have hbne : b' ≠ b := by
        rintro rfl
        exact hs.mem.rh.sep x r _ _ b' (Ne.symm hne) hl' hl hb' (by rw [e2]; rfl)
      exact ⟨setRow_ne w b b' cs hbne, updK_ne K _ hbne⟩
    · subst hx'
      simp only [List.cons_append, List.nil_append] at hl'
      rw [lkH_cons_same] at hl'
      simp only [Option.some.injEq] at hl'; subst hl'
      refine ⟨⟨b, cs, T, e2, setRow_heap w b cur cs T (0, 0) f2, by omega, p3, f5, by rw [hK]; exact f6, ?_⟩, fun b' hb' => ?_, fun h64 => ⟨_, hl, rfl, fun _ => rfl⟩⟩
      · rw [hcl]
        exact RelCells_mono hk hg _ _ p5
      · refine ⟨hs.mem.own x _ b' hl hb', fun r' o'' hne hr' => ?_⟩
        simp only [List.cons_append, List.nil_append] at hr'
        rw [lkH_cons_ne _ _ (Ne.symm hne)] at hr'
        exact hs.mem.rh.sep x r' _ _ b' (Ne.symm hne) hl hr' hb'
end
end Eng

namespace Eng
open Go
theorem add_off (b off n : Nat) : (⟨b, off, none⟩ : Addr).add n = ⟨b, off + n, none⟩ := by unfold Addr.add; split <;> simp_all
section
variable {X : Ctx} {B : Base} {s : St} {g : Nat → Value} {K : Kom} {w : World} {a : Act}
theorem rowsOf_rel {fid : Nat → FuncId} {hp : Heap} (hh : RelH fid K w hp g) {v : AV} {c : Value} {sz : Nat} {rows : List (List PV)} (h : RelA fid K w hp g v c) (hr : rowsOf hp v = some (sz, rows)) : RelP K w (.sl sz rows) c := by
  cases v with
  | pl p =>
    cases p with
    | sl sz' rows' =>
      simp only [rowsOf, Option.some.injEq, Prod.mk.injEq] at hr
      obtain ⟨rfl, rfl⟩ := hr
      simpa only [RelA] using h
    | _ => simp [rowsOf] at hr
  | ex sz' rows' =>
    simp only [rowsOf, Option.some.injEq, Prod.mk.injEq] at hr
    obtain ⟨rfl, rfl⟩ := hr
    simp only [RelA] at h
    exact h.1
  | own r v =>
    simp only [rowsOf] at hr
    split at hr
    · rename_i sz' rows' v' hl
      cases hb : Nat.beq v' v with
      | false => rw [hb] at hr; simp at hr
      | true =>
        rw [hb] at hr
        rw [beqN] at hb; subst hb
        simp only [cond_true, Option.some.injEq, Prod.mk.injEq] at hr
        obtain ⟨rfl, rfl⟩ := hr
        simp only [RelA] at h
        obtain ⟨_, vc, e1, e2, e3⟩ := h
        rw [curV_buf hl] at e1
        simp only [Option.some.injEq] at e1; subst e1
        rw [e3 rfl]
        rcases hh.obj r _ hl with ⟨rfl, f⟩ | ⟨b, cap, cur, T, f1, f2, f3, f4, f5, f6⟩
        · rw [f]
          simp only [RelP]
          exact ⟨none, 0, rfl, Nat.le_refl _, .inl trivial⟩
        · rw [f1]
          simp only [RelP]
          refine ⟨_, cap, rfl, f4, .inr ⟨b, 0, cur, T, (0, 0), rfl, f2, by omega, ?_, by simpa using f6⟩⟩
          rw [f5, f3]
          exact Nat.mul_le_mul_right _ f4
    · simp at hr
  | _ => simp [rowsOf] at hr
theorem run_fadd_ptr (hs : RelS X B s g K w a) {o : Oper} {r off d : Nat} {x : Opd} {y : Operand} {t f : Nat} {fs : Array Field} {fd : Field} {i : TypeInfo} (ho : o.op = .fieldAddr t y f) (hx : chkOpd X x y = true)
    (ht : X.P.underlying t = some (.struct fs)) (hf : fs[f]? = some fd) (hd : fd.offset = d) (hi : X.P.info? fd.type = some i) (h0 : i.size ≠ 0) (hv : opd X.G s.env x = .ptr r off) : OpRun X B s.hp g K w a o (.ptr r (off + d)) [] := by
  have h1 := opd_rel hs hx
  rw [hv] at h1
  simp only [RelA] at h1
  obtain ⟨n', v1, b, e1, e2, e3⟩ := h1
  refine OpRun.still hs (c := .pointer (some ⟨b, off + d, none⟩)) ?_ (by simp only [RelA]; exact ⟨n', v1, b, e1, e2, rfl⟩)
  simp only [execOp, ho, Instr.fieldAt, Sem.run_bind, run_underlying ht, Result.andThen_ok, hf, e3, Instr.sureAddr, Sem.run_pure, fieldPlace, Go.sizeOf, typeInfo, run_program, hi, h0, if_false, hd, add_off]
theorem run_fadd_rp (hs : RelS X B s g K w a) {o : Oper} {m d : Nat} {cs : List PV} {x : Opd} {y : Operand} {t f : Nat} {fs : Array Field} {fd : Field} {i : TypeInfo} (ho : o.op = .fieldAddr t y f) (hx : chkOpd X x y = true)
    (ht : X.P.underlying t = some (.struct fs)) (hf : fs[f]? = some fd) (hd : fd.offset = d) (hi : X.P.info? fd.type = some i) (h0 : i.size ≠ 0) (hv : opd X.G s.env x = .rp m cs) (hm : d ≤ m) :
    OpRun X B s.hp g K w a o (.rp (m - d) (bif Nat.beq d 0 then cs else cs.drop d)) [] := by
  have h1 := opd_rel hs hx
  rw [hv] at h1
  simp only [RelA] at h1
  obtain ⟨b, off, cur, T, fr, e1, e2, e3, e4, e5, e6⟩ := h1
  refine OpRun.still hs (c := .pointer (some ⟨b, off + d, none⟩)) ?_ ?_
  · simp only [execOp, ho, Instr.fieldAt, Sem.run_bind, run_underlying ht, Result.andThen_ok, hf, e1, Instr.sureAddr, Sem.run_pure, fieldPlace, Go.sizeOf, typeInfo, run_program, hi, h0, if_false, hd, add_off]
  · have hc : (bif Nat.beq d 0 then cs else cs.drop d) = cs.drop d := by
      cases hb : Nat.beq d 0 with
      | true => rw [beqN] at hb; subst hb; simp
      | false => simp
    rw [hc]
    simp only [RelA]
    refine ⟨b, off + d, cur, T, fr, rfl, e2, by omega, e4, by simp; omega, ?_⟩
    rw [← List.drop_drop]
    exact RelL_drop d e6
theorem run_iadd_rows (hs : RelS X B s g K w a) {o : Oper} {sz : Nat} {x y : Opd} {x' y' : Operand} {t e : TypeId} {rows : List (List PV)} {k : IntKind} {n : Int} (ho : o.op = .indexAddr t x' y') (hx : chkOpd X x x' = true) (hy : chkOpd X y y' = true)
    (ht : X.P.underlying t = some (.slice e)) (he : szIs X e sz = true) (hr : rowsOf s.hp (opd X.G s.env x) = some (sz, rows)) (hi : opd X.G s.env y = .pl (.int k n)) (h0 : 0 ≤ n) (h1 : n < rows.length) :
    OpRun X B s.hp g K w a o (.rp sz (rows.getD n.toNat [])) [] := by
  have h2 := rowsOf_rel hs.mem.rh (opd_rel hs hx) hr
  have h3 := opd_rel hs hy
  rw [hi] at h3
  simp only [RelA, RelP] at h3 h2
  obtain ⟨ad, cap, f1, f2, f3⟩ := h2
  rcases f3 with f3 | ⟨b, off, cur, T, fr, rfl, e2, e3, e4, e5⟩
  · subst f3; simp at h1; omega
  · have hn : n.toNat < rows.length := by omega
    have hmul : n.toNat * sz + sz ≤ rows.length * sz := by
      have : (n.toNat + 1) * sz ≤ rows.length * sz := Nat.mul_le_mul_right _ (by omega)
      rw [Nat.add_mul, Nat.one_mul] at this; exact this
    obtain ⟨r1, r2⟩ := RelRows_get n.toNat e5 hn
    refine OpRun.still hs (c := .pointer (some ⟨b, off + n.toNat * sz, none⟩)) ?_ ?_
    · simp only [execOp, ho, f1, h3, Instr.indexAt, asIntOf, Sem.run_bind, Sem.run_pure, Result.andThen_ok, run_underlying ht, h0, h1, and_self, if_true, run_size he, add_off]
    · simp only [RelA]
      refine ⟨b, off + n.toNat * sz, cur, T, fr, rfl, e2, by omega, e4, r1, ?_⟩
      rw [← List.drop_drop]
      exact r2
theorem run_iadd_op (hs : RelS X B s g K w a) {o : Oper} {sz r v : Nat} {x y : Opd} {x' y' : Operand} {t e : TypeId} {rows : List (List PV)} {k : IntKind} {n : Int} (ho : o.op = .indexAddr t x' y') (hx : chkOpd X x x' = true) (hy : chkOpd X y y' = true)
    (ht : X.P.underlying t = some (.slice e)) (he : szIs X e sz = true) (hv : opd X.G s.env x = .own r v) (hl : lkH s.hp r = some (.bufo sz rows v)) (hi : opd X.G s.env y = .pl (.int k n)) (h1 : n = rows.length) :
    OpRun X B s.hp g K w a o (.op r v) [] := by
  have h2 := opd_rel hs hx
  rw [hv] at h2
  have h3 := opd_rel hs hy
  rw [hi] at h3
  simp only [RelA, RelP] at h3 h2
  obtain ⟨_, vc, e1, e2, e3⟩ := h2
  rw [curV_bufo hl] at e1
  simp only [Option.some.injEq] at e1; subst e1
  obtain ⟨b, cap, cur, T, f1, f2, f3, f4, f5, f6⟩ := hs.mem.rh.obj r _ hl
  have hx' : a.eval x' = .slice (some ⟨b, 0, none⟩) (rows.length + 1) cap := (e3 rfl).trans f1
  refine OpRun.still hs (c := .pointer (some ⟨b, rows.length * sz, none⟩)) ?_ ?_
  · have h0 : (0 : Int) ≤ n := by omega
    have h4 : n < ((rows.length + 1 : Nat) : Int) := by omega
    simp only [execOp, ho, hx', h3, Instr.indexAt, asIntOf, Sem.run_bind, Sem.run_pure, Result.andThen_ok, run_underlying ht, h0, h4, and_self, if_true, run_size he, add_off]
    simp [h1]
  · simp only [RelA]
    refine ⟨⟨_, rfl⟩, v, curV_bufo hl, Nat.le_refl _, fun sz' rows' hh => ?_⟩
    rw [hl] at hh
    simp only [Option.some.injEq, Obj.bufo.injEq, and_true] at hh
    obtain ⟨rfl, rfl⟩ := hh
    exact ⟨b, _, cap, f1, rfl⟩
theorem run_iarr_ptr (hs : RelS X B s g K w a) {o : Oper} {len sz r off : Nat} {x y : Opd} {x' y' : Operand} {t e : TypeId} {k : IntKind} {n : Int} (ho : o.op = .indexAddr t x' y') (hx : chkOpd X x x' = true) (hy : chkOpd X y y' = true)
    (ht : X.P.underlying t = some (.array len e)) (he : szIs X e sz = true) (hv : opd X.G s.env x = .ptr r off) (hi : opd X.G s.env y = .pl (.int k n)) (h0 : 0 ≤ n) (h1 : n < len) :
    OpRun X B s.hp g K w a o (.ptr r (off + n.toNat * sz)) [] := by
  have h2 := opd_rel hs hx
  rw [hv] at h2
  have h3 := opd_rel hs hy
  rw [hi] at h3
  simp only [RelA, RelP] at h3 h2
  obtain ⟨n', v1, b, e1, e2, e3⟩ := h2
  refine OpRun.still hs (c := .pointer (some ⟨b, off + n.toNat * sz, none⟩)) ?_ (by simp only [RelA]; exact ⟨n', v1, b, e1, e2, rfl⟩)
  simp only [execOp, ho, e3, h3, Instr.indexAt, asIntOf, Sem.run_bind, Sem.run_pure, Result.andThen_ok, run_underlying ht, Instr.sureAddr, h0, h1, and_self, if_true, run_size he, add_off]
theorem run_iarr_rp (hs : RelS X B s g K w a) {o : Oper} {len sz m : Nat} {cs : List PV} {x y : Opd} {x' y' : Operand} {t e : TypeId} {k : IntKind} {n : Int} (ho : o.op = .indexAddr t x' y') (hx : chkOpd X x x' = true) (hy : chkOpd X y y' = true)
    (ht : X.P.underlying t = some (.array len e)) (he : szIs X e sz = true) (hv : opd X.G s.env x = .rp m cs) (hi : opd X.G s.env y = .pl (.int k n)) (h0 : 0 ≤ n) (h1 : n < len) (hm : len * sz ≤ m) :
    OpRun X B s.hp g K w a o (.rp (m - n.toNat * sz) (cs.drop (n.toNat * sz))) [] := by
  have h2 := opd_rel hs hx
  rw [hv] at h2
  have h3 := opd_rel hs hy
  rw [hi] at h3
  simp only [RelA, RelP] at h3 h2
  obtain ⟨b, off, cur, T, fr, e1, e2, e3, e4, e5, e6⟩ := h2
  have hmul : n.toNat * sz ≤ len * sz := Nat.mul_le_mul_right _ (by omega)
  refine OpRun.still hs (c := .pointer (some ⟨b, off + n.toNat * sz, none⟩)) ?_ ?_
  · simp only [execOp, ho, e1, h3, Instr.indexAt, asIntOf, Sem.run_bind, Sem.run_pure, Result.andThen_ok, run_underlying ht, Instr.sureAddr, h0, h1, and_self, if_true, run_size he, add_off]
  · simp only [RelA]
    refine ⟨b, off + n.toNat * sz, cur, T, fr, rfl, e2, by omega, e4, by simp; omega, ?_⟩
    rw [← List.drop_drop]
    exact RelL_drop _ e6
theorem run_fld (hs : RelS X B s g K w a) {o : Oper} {off n : Nat} {ag : Bool} {x : Opd} {y : Operand} {t f : Nat} {fs : Array Field} {fd : Field} {u : AV} (ho : o.op = .field t y f) (hx : chkOpd X x y = true)
    (ht : X.P.underlying t = some (.struct fs)) (hf : fs[f]? = some fd) (hd : fd.offset = off) (hsz : szIs X fd.type n = true) (hag : aggIs X fd.type ag = true)
    (hp : partOf (opd X.G s.env x) (sizeAV (opd X.G s.env x)) off n ag = some u) (ha : (∃ k cs, opd X.G s.env x = .st k cs) ∨ ∃ cs, opd X.G s.env x = .agg cs) : OpRun X B s.hp g K w a o u [] := by
  have h1 := opd_rel hs hx
  have h2 : ∃ arr, a.eval y = .agg arr := by
    rcases ha with ⟨k, cs, e⟩ | ⟨cs, e⟩ <;> rw [e] at h1 <;> simp only [RelA] at h1 <;> obtain ⟨arr, e, _⟩ := h1 <;> exact ⟨arr, e⟩
  obtain ⟨arr, e⟩ := h2
  rw [e] at h1
  have hne : opd X.G s.env x ≠ .undef := by rcases ha with ⟨k, cs, e⟩ | ⟨cs, e⟩ <;> rw [e] <;> simp
  obtain ⟨c1, c2⟩ := RelA_cells h1 hne
  obtain ⟨g1, g2, g3⟩ := partOf_rel hp c1 (by simpa using c2)
  cases ag with
  | true =>
    refine OpRun.still hs ?_ (g2 rfl)
    simp only [execOp, ho, Instr.field, Sem.run_bind, run_underlying ht, Result.andThen_ok, hf, e, asAgg, Sem.run_pure, part, run_agg hag, if_true, run_size hsz, hd]
    congr 2
    apply congrArg
    apply Array.ext'
    simp [List.extract_eq_drop_take]
  | false =>
    obtain ⟨rfl, c, k1, k2⟩ := g3 rfl
    refine OpRun.still hs (c := c) ?_ k2
    have hk : arr[off]? = some c := by simpa using k1
    simp only [execOp, ho, Instr.field, Sem.run_bind, run_underlying ht, Result.andThen_ok, hf, e, asAgg, Sem.run_pure, part, run_agg hag, hd, hk]
    rfl
theorem run_ext (hs : RelS X B s g K w a) {o : Oper} {i : Nat} {x : Opd} {y : Operand} {vs : List AV} {v : AV} (ho : o.op = .extract y i) (hx : chkOpd X x y = true) (hv : opd X.G s.env x = .tup vs) (hc : cellA vs i = some v) :
    OpRun X B s.hp g K w a o v [] := by
  have h1 := opd_rel hs hx
  rw [hv] at h1
  simp only [RelA] at h1
  obtain ⟨arr, e, h2⟩ := h1
  obtain ⟨c, k1, k2⟩ := RelAs_get i v h2 hc
  refine OpRun.still hs (c := c) ?_ k2
  have hk : arr[i]? = some c := by simpa using k1
  simp [execOp, ho, e, Instr.extract, hk]
theorem run_chk (hs : RelS X B s g K w a) {o : Oper} {x : Opd} {y : Operand} (ho : o.op = .nilCheck y) (hx : chkOpd X x y = true)
    (hv : (∃ r k, opd X.G s.env x = .ptr r k) ∨ (∃ n cs, opd X.G s.env x = .rp n cs) ∨ ∃ f cs, opd X.G s.env x = .fn f cs) : OpRun X B s.hp g K w a o (opd X.G s.env x) [] := by
  have h1 := opd_rel hs hx
  refine OpRun.still hs (c := a.eval y) ?_ h1
  rcases hv with ⟨r, k, e⟩ | ⟨n, cs, e⟩ | ⟨f, cs, e⟩ <;> rw [e] at h1 <;> simp only [RelA] at h1
  · obtain ⟨_, _, b, _, _, e3⟩ := h1
    simp [execOp, ho, e3]
  · obtain ⟨b, off, cur, T, fr, e1, _⟩ := h1
    simp [execOp, ho, e1]
  · obtain ⟨arr, e1, _⟩ := h1
    simp [execOp, ho, e1]
theorem run_un (hs : RelS X B s g K w a) {o : Oper} {op : UnOp} {t : TypeId} {x : Opd} {y : Operand} {v : AV} (ho : o.op = .unOp op t y) (hx : chkOpd X x y = true) (hv : unEv op (opd X.G s.env x) = some v) :
    OpRun X B s.hp g K w a o v [] := by
  have h1 := opd_rel hs hx
  generalize opd X.G s.env x = u at h1 hv
  unfold unEv at hv
  split at hv
  · rename_i b
    simp only [RelA, RelP] at h1
    cases op <;> simp at hv
    subst hv
    exact OpRun.still hs (c := .bool (!b)) (by simp [execOp, ho, h1, Op.unary]) (by simp [RelA, RelP])
  · rename_i k n
    simp only [RelA, RelP] at h1
    cases op <;> simp at hv
    subst hv
    exact OpRun.still hs (c := .int k (k.wrap (0 - n))) (by simp [execOp, ho, h1, Op.unary, Op.intArith]) (by simp [RelA, RelP])
  · simp at hv
theorem run_conv (hs : RelS X B s g K w a) {o : Oper} {src dst : TypeId} {k k0 k1 : IntKind} {n : Int} {x : Opd} {y : Operand} (ho : o.op = .convert src dst y) (hx : chkOpd X x y = true)
    (h1 : X.P.underlying src = some (.int k0)) (h2 : X.P.underlying dst = some (.int k)) (hv : opd X.G s.env x = .pl (.int k1 n)) : OpRun X B s.hp g K w a o (.pl (.int k (k.wrap n))) [] := by
  have h3 := opd_rel hs hx
  rw [hv] at h3
  simp only [RelA, RelP] at h3
  refine OpRun.still hs (c := .int k (k.wrap n)) ?_ (by simp [RelA, RelP])
  simp [execOp, ho, h3, convert, run_underlying h1, run_underlying h2, Conv.intToInt]
theorem run_eqGuard_int (op : BinOp) (t : TypeId) (x y : Operand) (k k' : IntKind) (n m : Int) : (eqGuard op t x y (.int k n) (.int k' m)).run X.P w = .ok () w := by
  unfold eqGuard; cases op <;> simp
theorem run_eqGuard_bool (op : BinOp) (t : TypeId) (x y : Operand) (b c : Bool) : (eqGuard op t x y (.bool b) (.bool c)).run X.P w = .ok () w := by
  unfold eqGuard; cases op <;> simp
def valOf : PV → Value
  | .int k n => .int k n
  | .bool b => .bool b
  | _ => undef
set_option maxHeartbeats 1000000 in
theorem bin_key {P : Program} {op : BinOp} (t : TypeId) {k k' : IntKind} {n m : Int} {v : AV} (hv : binEv op (.pl (.int k n)) (.pl (.int k' m)) = some v) :
    ∃ p, v = .pl p ∧ (binOp op t (.int k n) (.int k' m)).run P w = .ok (valOf p) w ∧ RelP K w p (valOf p) := by
  unfold binEv at hv
  dsimp only at hv
  by_cases hkk : k = k'
  · subst hkk
    cases op with
    | shl =>
      dsimp only at hv
      by_cases hb : m < 0
      · rw [decide_eq_true hb] at hv; simp at hv
      · rw [decide_eq_false hb] at hv
        simp only [cond_false, Option.some.injEq] at hv; subst hv
        exact ⟨_, rfl, by simp [binOp, Op.shift, hb, valOf], by simp [RelP, valOf]⟩
    | shr =>
      dsimp only at hv
      by_cases hb : m < 0
      · rw [decide_eq_true hb] at hv; simp at hv
      · rw [decide_eq_false hb] at hv
        simp only [cond_false, Option.some.injEq] at hv; subst hv
        exact ⟨_, rfl, by simp [binOp, Op.shift, hb, valOf], by simp [RelP, valOf]⟩
    | quo =>
      dsimp only at hv
      rw [beq_self_eq_true] at hv
      by_cases hb : m = 0
      · rw [decide_eq_true hb] at hv; simp at hv
      · rw [decide_eq_false hb] at hv
        simp only [cond_true, cond_false, Option.some.injEq] at hv; subst hv
        exact ⟨_, rfl, by simp [binOp, Op.intDiv, hb, valOf], by simp [RelP, valOf]⟩
    | rem =>
      dsimp only at hv
      rw [beq_self_eq_true] at hv
      by_cases hb : m = 0
      · rw [decide_eq_true hb] at hv; simp at hv
      · rw [decide_eq_false hb] at hv
        simp only [cond_true, cond_false, Option.some.injEq] at hv; subst hv
        exact ⟨_, rfl, by simp [binOp, Op.intDiv, hb, valOf], by simp [RelP, valOf]⟩
    | _ =>
      dsimp only at hv
      rw [beq_self_eq_true] at hv
      simp only [cond_true, Option.some.injEq] at hv; subst hv
      exact ⟨_, rfl, by simp [binOp, Op.intArith, Op.intBits, Op.intCmp, valOf], by simp [RelP, valOf]⟩
  · have hk : (k == k') = false := by simpa using hkk
    cases op with
    | shl =>
      dsimp only at hv
      by_cases hb : m < 0
      · rw [decide_eq_true hb] at hv; simp at hv
      · rw [decide_eq_false hb] at hv
        simp only [cond_false, Option.some.injEq] at hv; subst hv
        exact ⟨_, rfl, by simp [binOp, Op.shift, hb, valOf], by simp [RelP, valOf]⟩
    | shr =>
      dsimp only at hv
      by_cases hb : m < 0
      · rw [decide_eq_true hb] at hv; simp at hv
      · rw [decide_eq_false hb] at hv
        simp only [cond_false, Option.some.injEq] at hv; subst hv
        exact ⟨_, rfl, by simp [binOp, Op.shift, hb, valOf], by simp [RelP, valOf]⟩
    | _ =>
      dsimp only at hv
      rw [hk] at hv; simp at hv
theorem run_bin_int (hs : RelS X B s g K w a) {o : Oper} {op : BinOp} {t t' : TypeId} {x y : Operand} (ho : o.op = .binOp op t x y t') {k k' : IntKind} {n m : Int} {v : AV} (hx : a.eval x = .int k n) (hy : a.eval y = .int k' m)
    (hv : binEv op (.pl (.int k n)) (.pl (.int k' m)) = some v) : OpRun X B s.hp g K w a o v [] := by
  obtain ⟨p, rfl, h1, h2⟩ := bin_key (P := X.P) (w := w) (K := K) t hv
  refine OpRun.still hs (c := valOf p) ?_ (by simpa only [RelA] using h2)
  simp only [execOp, ho, hx, hy, Sem.run_bind, run_eqGuard_int, Result.andThen_ok, h1, Sem.run_pure]
theorem run_equal_bool {P : Program} (t : TypeId) (ht : P.underlying t = some .bool) (b c : Bool) : (Op.equal t (.bool b) (.bool c)).run P w = .ok (b == c) w := by
  have h : ∀ d, (Op.equalIn (d + 1) t (.bool b) (.bool c)).run P w = .ok (b == c) w := by
    intro d
    simp only [Op.equalIn, Sem.run_bind, run_underlying ht, Result.andThen_ok, Sem.run_pure]
  exact h 9999
theorem run_bin_bool (hs : RelS X B s g K w a) {o : Oper} {op : BinOp} {t t' : TypeId} {x y : Operand} (ho : o.op = .binOp op t x y t') {b c : Bool} {v : AV} (ht : X.P.underlying t = some .bool) (hx : a.eval x = .bool b) (hy : a.eval y = .bool c)
    (hv : binbEv op (.pl (.bool b)) (.pl (.bool c)) = some v) : OpRun X B s.hp g K w a o v [] := by
  unfold binbEv at hv
  cases op <;> simp only [Option.some.injEq, reduceCtorEq] at hv <;> subst hv
  · refine OpRun.still hs (c := .bool (b == c)) ?_ (by simp [RelA, RelP])
    simp only [execOp, ho, hx, hy, Sem.run_bind, run_eqGuard_bool, Result.andThen_ok, binOp, run_equal_bool t ht, Sem.run_pure]
  · refine OpRun.still hs (c := .bool (!(b == c))) ?_ (by simp [RelA, RelP])
    simp only [execOp, ho, hx, hy, Sem.run_bind, run_eqGuard_bool, Result.andThen_ok, binOp, run_equal_bool t ht, Sem.run_pure]
end
end Eng

namespace Eng
open Go
section
variable {X : Ctx} {B : Base} {s : St} {g : Nat → Value} {K : Kom} {w : World} {a : Act} {fid : Nat → FuncId} {hp : Heap}
theorem frz1_rel (hh : RelH fid K w hp g) {v : AV} {c : Value} (h : RelA fid K w hp g v c) : RelA fid K w hp g (frz1 hp v) c := by
  cases v with
  | own r v =>
    simp only [frz1]
    cases hr : rowsOf hp (.own r v) with
    | none => simp [RelA]
    | some x =>
      obtain ⟨sz, rows⟩ := x
      simp only [RelA]
      exact rowsOf_rel hh h hr
  | ex sz rows => simp only [frz1, RelA] at h ⊢; exact h.1
  | _ => exact h
theorem frzL_rel (hh : RelH fid K w hp g) : ∀ {vs : List AV} {l : List Value}, RelCells fid K w hp g vs l → RelCells fid K w hp g (frzL hp vs) l
  | [], _, h => h
  | v :: vs, l, h => by
    simp only [RelCells, frzL] at h ⊢
    obtain ⟨c, t, rfl, h1, h2⟩ := h
    exact ⟨c, t, rfl, ⟨frz1_rel hh h1.1, h1.2⟩, frzL_rel hh h2⟩
theorem frz_rel (hh : RelH fid K w hp g) {v : AV} {c : Value} (h : RelA fid K w hp g v c) : RelA fid K w hp g (frz hp v) c := by
  cases v with
  | agg cs =>
    simp only [frz]
    simp only [RelA] at h
    obtain ⟨arr, rfl, h1⟩ := h
    exact RelA_pack (frzL_rel hh h1)
  | _ => exact frz1_rel hh h
theorem frzT_rel (hh : RelH fid K w hp g) : ∀ {vs : List AV} {l : List Value}, RelAs fid K w hp g vs l → RelAs fid K w hp g (frzT hp vs) l
  | [], _, h => h
  | v :: vs, l, h => by
    simp only [RelAs, frzT] at h ⊢
    obtain ⟨c, t, rfl, h1, h2⟩ := h
    exact ⟨c, t, rfl, frz_rel hh h1, frzT_rel hh h2⟩
theorem fold_set (off : Nat) : ∀ (l : List Value) (k : Nat) (cells : Array Value), off + k + l.length ≤ cells.size →
    ((l.zipIdx k).foldl (fun cs p => cs.setIfInBounds (off + p.2) p.1) cells).toList = cells.toList.take (off + k) ++ l ++ cells.toList.drop (off + k + l.length)
  | [], k, cells, h => by simp
  | c :: l, k, cells, h => by
    simp only [List.zipIdx_cons, List.foldl_cons]
    have ih := fold_set off l (k + 1) (cells.setIfInBounds (off + k) c) (by simp at h ⊢; omega)
    rw [ih]
    have hlt : off + k < cells.toList.length := by simp at h ⊢; omega
    simp only [Array.toList_setIfInBounds, List.length_cons]
    rw [show off + (k + 1) = (off + k) + 1 from by omega, show off + k + 1 + l.length = off + k + (l.length + 1) from by omega]
    rw [List.take_succ_eq_append_getElem (by simpa using hlt), List.take_set_of_le (Nat.le_refl _), List.getElem_set_self, List.drop_set_of_lt (by omega)]
    simp
theorem run_fill {place : Nat → Option (Nat × Nat)} {g' : Nat → Value} (hs : RelS X B s g K w a) (hg : HGo s.hp g hp g') : ∀ {ps : List (Nat × Nat × Opd)} {qs : List (Nat × Operand)} {z cs : List AV} {zc : Array Value},
    fillAV X.G s.env z ps = some cs → RelCells X.fid K w hp g' z zc.toList →
    (∀ p ∈ ps.zip qs, place p.2.1 = some (p.1.1, p.1.2.1) ∧ chkOpd X p.1.2.2 p.2.2 = true) → ps.length = qs.length →
    ∃ r, Instr.fill place zc (qs.map fun q => (q.1, a.eval q.2)) = some r ∧ RelCells X.fid K w hp g' cs r.toList
  | [], [], z, cs, zc, h, hz, _, _ => by
    simp only [fillAV, Option.some.injEq] at h; subst h
    exact ⟨zc, by simp [Instr.fill], hz⟩
  | (off, n, x) :: ps, (i, y) :: qs, z, cs, zc, h, hz, hc, hl => by
    simp only [fillAV] at h
    cases hb : (Nat.beq (sizeAV (opd X.G s.env x)) n && Nat.ble (off + n) z.length && Nat.blt 0 n) with
    | false => rw [hb] at h; simp at h
    | true =>
      rw [hb] at h
      simp only [Bool.and_eq_true, beqN, bleN, bltN] at hb
      obtain ⟨⟨b1, b2⟩, b3⟩ := hb
      simp only [cond_true] at h
      obtain ⟨p1, p2⟩ := hc ((off, n, x), (i, y)) (by simp)
      dsimp only at p1 p2
      have hx := opd_rel hs p2
      have h0 : 0 < sizeAV (opd X.G s.env x) := by omega
      obtain ⟨r1, r2⟩ := RelA_cellsV hx h0
      have r1' := RelCells_mono (Keep.refl K w) hg _ _ r1
      have hln := RelCells_length hz
      have hlr := RelCells_length r1
      have hcs : (a.eval y).cells.size = n := by omega
      have hcl : (a.eval y).cells.toList.length = n := by simp; omega
      have hzl : zc.size = z.length := by simpa using hln
      obtain ⟨s1, s2⟩ := putN_rel off hz r1' (by omega)
      rw [hcl] at s1
      have hfold := fold_set off (a.eval y).cells.toList 0 zc (by omega)
      simp only [Nat.add_zero, hcl] at hfold
      have hz' : RelCells X.fid K w hp g' (putN z off (cellsAV (opd X.G s.env x))) (((a.eval y).cells.toList.zipIdx 0).foldl (fun cs p => cs.setIfInBounds (off + p.2) p.1) zc).toList := by
        rw [hfold]; exact s1
      obtain ⟨r, e1, e2⟩ := run_fill hs hg h hz' (fun p hp' => hc p (by rw [List.zip_cons_cons]; exact List.mem_cons_of_mem _ hp')) (by simpa using hl)
      refine ⟨r, ?_, e2⟩
      simp only [List.map_cons, Instr.fill, p1]
      have h2 : ((decide ((a.eval y).cells.size ≠ n)) || decide (off + (a.eval y).cells.size > zc.size)) = false := by
        simp only [Bool.or_eq_false_iff, decide_eq_false_iff_not]
        exact ⟨fun e => e hcs, by omega⟩
      simp only [h2, Bool.false_eq_true, if_false]
      rw [← e1]
      congr 1
      rw [← Array.foldl_toList]
      congr 1
      simp
  | [], _ :: _, _, _, _, _, _, _, hl => by simp at hl
  | _ :: _, [], _, _, _, _, _, _, hl => by simp at hl
theorem run_mkf (hs : RelS X B s g K w a) {o : Oper} {f : Nat} {k : FuncId} {caps : List Opd} {first caps' : Array Operand} (ho : o.op = .makeFunc (.func k) first caps') (hf : X.fid f = k) (h0 : first = #[]) (hc : chkOpds X caps caps'.toList = true) :
    OpRun X B s.hp g K w a o (.fn f (frzT s.hp (opds X.G s.env caps))) [] := by
  subst h0
  refine OpRun.still hs (c := .func (.func k) #[] (caps'.map a.eval)) (by simp [execOp, ho, Instr.makeFunc]) ?_
  simp only [RelA, hf]
  refine ⟨_, rfl, ?_⟩
  rw [Array.toList_map]
  exact frzT_rel hs.mem.rh (opds_rel hs hc)
theorem exec_builtin {o : Oper} {b : Builtin} {args : Array Operand} {tys : Array TypeId} (ho : o.op = .call { callee := .builtin b, args, argTypes := tys }) :
    (execOp a.eval o).run X.P w = (builtin b tys o.type (args.map fun | .const _ => true | _ => false) (args.map a.eval)).run X.P w := by
  simp only [execOp, ho, resolve, invoke, Sem.run_bind, Sem.run_pure, Result.andThen_ok]
  rfl
theorem run_len_rows (hs : RelS X B s g K w a) {o : Oper} {x : Opd} {y : Operand} {tys : Array TypeId} {t e : TypeId} {sz : Nat} {rows : List (List PV)} (ho : o.op = .call { callee := .builtin .len, args := #[y], argTypes := tys })
    (ht : tys[0]? = some t) (hu : X.P.underlying t = some (.slice e)) (hx : chkOpd X x y = true) (hr : rowsOf s.hp (opd X.G s.env x) = some (sz, rows)) : OpRun X B s.hp g K w a o (.pl (.int .i64 rows.length)) [] := by
  have h2 := rowsOf_rel hs.mem.rh (opd_rel hs hx) hr
  simp only [RelP] at h2
  obtain ⟨ad, cap, f1, _⟩ := h2
  refine OpRun.still hs (c := .int .i64 rows.length) ?_ (by simp [RelA, RelP])
  rw [exec_builtin ho]
  simp [builtin, Builtin.len_, ht, run_underlying hu, f1, goInt]
theorem run_len_str (hs : RelS X B s g K w a) {o : Oper} {x : Opd} {y : Operand} {tys : Array TypeId} {t : TypeId} {st : ByteArray} (ho : o.op = .call { callee := .builtin .len, args := #[y], argTypes := tys })
    (ht : tys[0]? = some t) (hu : X.P.underlying t = some .string) (hx : chkOpd X x y = true) (hr : opd X.G s.env x = .pl (.str st)) : OpRun X B s.hp g K w a o (.pl (.int .i64 st.size)) [] := by
  have h2 := opd_rel hs hx
  rw [hr] at h2
  simp only [RelA, RelP] at h2
  refine OpRun.still hs (c := .int .i64 st.size) ?_ (by simp [RelA, RelP])
  rw [exec_builtin ho]
  simp [builtin, Builtin.len_, ht, run_underlying hu, h2, goInt]
theorem run_min2 (hs : RelS X B s g K w a) {o : Oper} {x y : Opd} {x' y' : Operand} {tys : Array TypeId} {k k' : IntKind} {n m : Int} (ho : o.op = .call { callee := .builtin .min, args := #[x', y'], argTypes := tys })
    (hx : chkOpd X x x' = true) (hy : chkOpd X y y' = true) (h1 : opd X.G s.env x = .pl (.int k n)) (h2 : opd X.G s.env y = .pl (.int k' m)) : OpRun X B s.hp g K w a o (.pl (.int k (bif decide (m < n) then m else n))) [] := by
  have e1 := opd_rel hs hx
  have e2 := opd_rel hs hy
  rw [h1] at e1; rw [h2] at e2
  simp only [RelA, RelP] at e1 e2
  refine OpRun.still hs (c := .int k (if m < n then m else n)) ?_ (by simp [RelA, RelP])
  rw [exec_builtin ho]
  simp [builtin, Builtin.min_, Builtin.min2, e1, e2]
theorem run_max2 (hs : RelS X B s g K w a) {o : Oper} {x y : Opd} {x' y' : Operand} {tys : Array TypeId} {k k' : IntKind} {n m : Int} (ho : o.op = .call { callee := .builtin .max, args := #[x', y'], argTypes := tys })
    (hx : chkOpd X x x' = true) (hy : chkOpd X y y' = true) (h1 : opd X.G s.env x = .pl (.int k n)) (h2 : opd X.G s.env y = .pl (.int k' m)) : OpRun X B s.hp g K w a o (.pl (.int k (bif decide (n < m) then m else n))) [] := by
  have e1 := opd_rel hs hx
  have e2 := opd_rel hs hy
  rw [h1] at e1; rw [h2] at e2
  simp only [RelA, RelP] at e1 e2
  refine OpRun.still hs (c := .int k (if n < m then m else n)) ?_ (by simp [RelA, RelP])
  rw [exec_builtin ho]
  simp [builtin, Builtin.max_, Builtin.max2, e1, e2]
end
end Eng

