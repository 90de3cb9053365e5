/- A run reckoned beforehand, quickly: the reckoning in the form in which it is short to work out. No conditions. -/
import Derived.Test.YtmlpimckfneliaaGreatEb
namespace Go.Proofs.YtmlpimckfneliaaGreat.Ev
abbrev R := Option Out
/-- an operand made ready -/
inductive XX where
  | sl (i j l : D8)
  | k (v : CV)
  | bad
/-- where a value goes -/
inductive XD where
  | no
  | to (i j l : D8)
  | bad
/-- an operation made ready -/
inductive XO where
  | mv (x : XX) (d : XD)
  | pick (x a b : XX) (d : XD)
  | ld1 (x : XX) (d : XD)
  | ldA (sz : Nat) (x : XX) (d : XD)
  | st1 (x y : XX) (d : XD)
  | fa (off : Nat) (x : XX) (d : XD)
  | ia (sz : Nat) (x i : XX) (d : XD)
  | bin (op : BinOp) (t : Nat) (lit : Bool) (x y : XX) (d : XD)
  | box (t : Nat) (x : XX) (d : XD)
  | call (f : Nat) (xs : List XX) (d : XD)
  | ext (x : XX) (i : Nat) (d : XD)
  | nt (x : XX) (d : XD)
  | cv (k : IntKind) (op : Op) (x : XX) (d : XD)
  | nil (x : XX) (d : XD)
  | len (op : Op) (x : XX) (d : XD)
  | old (op : Op) (d : XD)
  | gd (x : XX) (want : Bool) (o : XO) (d : XD)
  | bad
inductive XC where
  | skip
  | reg (l : List XO) (oo : Array Oper) (draw : Bool)
  | seq (a b : XC)
  | cond (x : XX) (a b : XC)
  | block (id : Nat) (a : XC)
  | loop (a : XC)
  | exit (id : Nat)
  | ret
  | bad
noncomputable def ga (α : Type) (t : N8 α) (K : α → R) : R := N8.rec (motive := fun _ => (α → R) → R) (fun a _ _ _ _ _ _ _ K => K a) t K
noncomputable def gb (α : Type) (t : N8 α) (K : α → R) : R := N8.rec (motive := fun _ => (α → R) → R) (fun _ b _ _ _ _ _ _ K => K b) t K
noncomputable def gc8 (α : Type) (t : N8 α) (K : α → R) : R := N8.rec (motive := fun _ => (α → R) → R) (fun _ _ c _ _ _ _ _ K => K c) t K
noncomputable def gd8 (α : Type) (t : N8 α) (K : α → R) : R := N8.rec (motive := fun _ => (α → R) → R) (fun _ _ _ d _ _ _ _ K => K d) t K
noncomputable def ge (α : Type) (t : N8 α) (K : α → R) : R := N8.rec (motive := fun _ => (α → R) → R) (fun _ _ _ _ e _ _ _ K => K e) t K
noncomputable def gf (α : Type) (t : N8 α) (K : α → R) : R := N8.rec (motive := fun _ => (α → R) → R) (fun _ _ _ _ _ f _ _ K => K f) t K
noncomputable def gg (α : Type) (t : N8 α) (K : α → R) : R := N8.rec (motive := fun _ => (α → R) → R) (fun _ _ _ _ _ _ g _ K => K g) t K
noncomputable def gh (α : Type) (t : N8 α) (K : α → R) : R := N8.rec (motive := fun _ => (α → R) → R) (fun _ _ _ _ _ _ _ h K => K h) t K
noncomputable def sa (α : Type) (t : N8 α) (F : α → (α → R) → R) (K : N8 α → R) : R := N8.rec (motive := fun _ => (α → (α → R) → R) → (N8 α → R) → R) (fun a b c d e f g h F K => F a fun x => K ⟨x, b, c, d, e, f, g, h⟩) t F K
noncomputable def sb (α : Type) (t : N8 α) (F : α → (α → R) → R) (K : N8 α → R) : R := N8.rec (motive := fun _ => (α → (α → R) → R) → (N8 α → R) → R) (fun a b c d e f g h F K => F b fun x => K ⟨a, x, c, d, e, f, g, h⟩) t F K
noncomputable def sc (α : Type) (t : N8 α) (F : α → (α → R) → R) (K : N8 α → R) : R := N8.rec (motive := fun _ => (α → (α → R) → R) → (N8 α → R) → R) (fun a b c d e f g h F K => F c fun x => K ⟨a, b, x, d, e, f, g, h⟩) t F K
noncomputable def sd (α : Type) (t : N8 α) (F : α → (α → R) → R) (K : N8 α → R) : R := N8.rec (motive := fun _ => (α → (α → R) → R) → (N8 α → R) → R) (fun a b c d e f g h F K => F d fun x => K ⟨a, b, c, x, e, f, g, h⟩) t F K
noncomputable def se (α : Type) (t : N8 α) (F : α → (α → R) → R) (K : N8 α → R) : R := N8.rec (motive := fun _ => (α → (α → R) → R) → (N8 α → R) → R) (fun a b c d e f g h F K => F e fun x => K ⟨a, b, c, d, x, f, g, h⟩) t F K
noncomputable def sf (α : Type) (t : N8 α) (F : α → (α → R) → R) (K : N8 α → R) : R := N8.rec (motive := fun _ => (α → (α → R) → R) → (N8 α → R) → R) (fun a b c d e f g h F K => F f fun x => K ⟨a, b, c, d, e, x, g, h⟩) t F K
noncomputable def sg (α : Type) (t : N8 α) (F : α → (α → R) → R) (K : N8 α → R) : R := N8.rec (motive := fun _ => (α → (α → R) → R) → (N8 α → R) → R) (fun a b c d e f g h F K => F g fun x => K ⟨a, b, c, d, e, f, x, h⟩) t F K
noncomputable def sh (α : Type) (t : N8 α) (F : α → (α → R) → R) (K : N8 α → R) : R := N8.rec (motive := fun _ => (α → (α → R) → R) → (N8 α → R) → R) (fun a b c d e f g h F K => F h fun x => K ⟨a, b, c, d, e, f, g, x⟩) t F K
noncomputable def getK (α : Type) (t : N8 α) (i : D8) (K : α → R) : R := D8.rec (motive := fun _ => N8 α → (α → R) → R) (ga α) (gb α) (gc8 α) (gd8 α) (ge α) (gf α) (gg α) (gh α) i t K
noncomputable def setK (α : Type) (t : N8 α) (i : D8) (F : α → (α → R) → R) (K : N8 α → R) : R := D8.rec (motive := fun _ => N8 α → (α → (α → R) → R) → (N8 α → R) → R) (sa α) (sb α) (sc α) (sd α) (se α) (sf α) (sg α) (sh α) i t F K
noncomputable def get1 (l : D8) (K : CV → R) (t : N8 CV) : R := getK CV t l K
noncomputable def get2 (j l : D8) (K : CV → R) (t : N8 (N8 CV)) : R := getK (N8 CV) t j (get1 l K)
noncomputable def xSl (i j l : D8) (env : Tr) (K : CV → R) : R := getK (N8 (N8 CV)) env i (get2 j l K)
def xCst (v : CV) (_ : Tr) (K : CV → R) : R := K v
def xNo (_ : Tr) (_ : CV → R) : R := none
noncomputable def xX (x : XX) (env : Tr) (K : CV → R) : R := XX.rec (motive := fun _ => Tr → (CV → R) → R) xSl xCst xNo x env K
def put0 (v : CV) (_ : CV) (K : CV → R) : R := K v
noncomputable def put1 (l : D8) (v : CV) (t : N8 CV) (K : N8 CV → R) : R := setK CV t l (put0 v) K
noncomputable def put2 (j l : D8) (v : CV) (t : N8 (N8 CV)) (K : N8 (N8 CV) → R) : R := setK (N8 CV) t j (put1 l v) K
def putNo (env : Tr) (_ : CV) (K : Tr → R) : R := K env
noncomputable def putTo (i j l : D8) (env : Tr) (v : CV) (K : Tr → R) : R := setK (N8 (N8 CV)) env i (put2 j l v) K
def putBad (_ : Tr) (_ : CV) (_ : Tr → R) : R := none
noncomputable def putK (d : XD) (env : Tr) (v : CV) (K : Tr → R) : R := XD.rec (motive := fun _ => Tr → CV → (Tr → R) → R) putNo putTo putBad d env v K
/-- values of a kind -/
def nK {α : Type} (_ : α) (_ : CA → R) : R := none
noncomputable def oneP (p : CP) (K : CA → R) : R := CP.rec (motive := fun _ => (CA → R) → R) (fun a K => K a) (fun _ _ => none) p K
noncomputable def oneK (v : CV) (K : CA → R) : R := CV.rec (motive := fun _ => (CA → R) → R) oneP (fun _ _ => none) v K
noncomputable def ptrA (K : Nat → Nat → R) (a : CA) : R := CA.rec (motive := fun _ => (Nat → Nat → R) → R) (fun _ _ => none) (fun _ _ => none) (fun b off K => K b off) (fun _ _ _ _ _ => none) (fun _ _ _ _ _ => none) (fun _ _ _ => none) a K
noncomputable def ptrK (v : CV) (K : Nat → Nat → R) : R := oneK v (ptrA K)
noncomputable def slA' (K : Nat → Nat → Nat → R) (a : CA) : R := CA.rec (motive := fun _ => (Nat → Nat → Nat → R) → R) (fun _ _ => none) (fun _ _ => none) (fun _ _ _ => none) (fun b off len _ K => K b off len) (fun b off len _ K => K b off len) (fun _ _ _ => none) a K
noncomputable def slK (v : CV) (K : Nat → Nat → Nat → R) : R := oneK v (slA' K)
/-- a literal, by its kind -/
inductive LV where
  | i (k : IntKind) (n : Int)
  | b (b : Bool)
  | o
noncomputable def lvOf (v : Value) : LV := Value.casesOn (motive_1 := fun _ => LV) v (fun b => .b b) (fun k n => .i k n) (fun _ _ => .o) (fun _ _ _ => .o) (fun _ => .o) (fun _ => .o) (fun _ _ _ => .o) (fun _ => .o) (fun _ => .o) (fun _ _ _ => .o) .o (fun _ _ => .o) .o (fun _ => .o) (fun _ => .o)
noncomputable def litA (K : LV → R) (a : CA) : R := CA.rec (motive := fun _ => (LV → R) → R) (fun v K => K (lvOf v)) (fun _ _ => none) (fun _ _ _ => none) (fun _ _ _ _ _ => none) (fun _ _ _ _ _ => none) (fun _ _ _ => none) a K
noncomputable def natL (K : Nat → R) (v : LV) : R := LV.rec (motive := fun _ => (Nat → R) → R) (fun _ n K => Int.rec (motive := fun _ => (Nat → R) → R) (fun n K => K n) (fun _ _ => none) n K) (fun _ _ => none) (fun _ => none) v K
noncomputable def natK (v : CV) (K : Nat → R) : R := oneK v (litA (natL K))
noncomputable def boolL (t f : R) (v : LV) : R := LV.rec (motive := fun _ => R → R → R) (fun _ _ _ _ => none) (fun b t f => Bool.rec f t b) (fun _ _ => none) v t f
noncomputable def boolK (v : CV) (t f : R) : R := oneK v (litA (boolL t f))
noncomputable def findS (p : Nat × CB) (_ : Hp) (ih : Nat → (CB → R) → R) (b : Nat) (K : CB → R) : R := Prod.rec (motive := fun _ => (Nat → (CB → R) → R) → Nat → (CB → R) → R) (fun b' k ih b K => Bool.rec (ih b K) (K k) (Nat.beq b' b)) p ih b K
noncomputable def findK (K : CB → R) (b : Nat) (H : Hp) : R := List.rec (motive := fun _ => Nat → (CB → R) → R) (fun _ _ => none) findS H b K
/-- a row's place, from there on -/
noncomputable def atS (a : CA) (l : List CA) (ih : Nat → (List CA → R) → R) (i : Nat) (K : List CA → R) : R := Nat.rec (motive := fun _ => CA → List CA → (Nat → (List CA → R) → R) → (List CA → R) → R) (fun a l _ K => K (a :: l)) (fun i _ _ _ ih K => ih i K) i a l ih K
noncomputable def at1 (cs : List CA) (i : Nat) (K : List CA → R) : R := List.rec (motive := fun _ => Nat → (List CA → R) → R) (fun i K => Nat.rec (K []) (fun _ _ => none) i) atS cs i K
noncomputable def hdK (K : CA → R) (l : List CA) : R := List.rec (motive := fun _ => (CA → R) → R) (fun _ => none) (fun a _ _ K => K a) l K
noncomputable def nthK (K : CA → R) (cs : List CA) (i : Nat) : R := at1 cs i (hdK K)
noncomputable def takeS (_ : Nat) (ih : List CA → (List CA → R) → R) (l : List CA) (K : List CA → R) : R := List.rec (motive := fun _ => (List CA → (List CA → R) → R) → (List CA → R) → R) (fun _ _ => none) (fun a l _ ih K => ih l fun r => K (a :: r)) l ih K
noncomputable def takeK (n : Nat) (l : List CA) (K : List CA → R) : R := Nat.rec (motive := fun _ => List CA → (List CA → R) → R) (fun _ K => K []) takeS n l K
noncomputable def cellS (a : CA) (l : List CA) (ih : Nat → CA → (List CA → R) → R) (i : Nat) (x : CA) (K : List CA → R) : R := Nat.rec (motive := fun _ => CA → List CA → (Nat → CA → (List CA → R) → R) → CA → (List CA → R) → R) (fun _ l _ x K => K (x :: l)) (fun i _ a _ ih x K => ih i x fun r => K (a :: r)) i a l ih x K
noncomputable def cellK (x : CA) (cs : List CA) (i : Nat) (K : List CA → R) : R := List.rec (motive := fun _ => Nat → CA → (List CA → R) → R) (fun _ _ _ => none) cellS cs i x K
noncomputable def argsK (env : Tr) (l : List XX) (K : List CV → R) : R := List.rec (motive := fun _ => Tr → (List CV → R) → R) (fun _ K => K []) (fun x _ ih env K => xX x env fun v => ih env fun r => K (v :: r)) l env K
/-- a cell by itself that may lie in memory -/
noncomputable def okV (v : Value) : Bool := LV.rec (motive := fun _ => Value → Bool) (fun _ _ _ => true) (fun _ _ => true) (fun v => v.oneCell') (lvOf v) v
noncomputable def okA (a : CA) : Bool := CA.rec (motive := fun _ => Bool) okV (fun _ => true) (fun _ _ => true) (fun _ _ _ _ => true) (fun _ _ _ _ => true) (fun _ _ => true) a
/-- forced -/
noncomputable def fcN (m : Nat) (K : Nat → R) : R := Nat.rec (motive := fun _ => (Nat → R) → R) (fun K => K 0) (fun k _ K => K (Nat.succ k)) m K
noncomputable def fcI (k : IntKind) (n : Int) (_ : Value) (K : CA → R) : R := Int.rec (motive := fun _ => IntKind → (CA → R) → R) (fun m k K => fcN m fun m => K (.lit (.int k (.ofNat m)))) (fun m k K => fcN m fun m => K (.lit (.int k (.negSucc m)))) n k K
noncomputable def fcB (b : Bool) (_ : Value) (K : CA → R) : R := Bool.rec (K (.lit (.bool false))) (K (.lit (.bool true))) b
noncomputable def fcV (v : Value) (K : CA → R) : R := LV.rec (motive := fun _ => Value → (CA → R) → R) fcI fcB (fun v K => K (.lit v)) (lvOf v) v K
noncomputable def fcP (b off : Nat) (K : CA → R) : R := fcN b fun b => fcN off fun off => K (.ptr b off)
noncomputable def fcS (b off len cap : Nat) (K : CA → R) : R := fcN b fun b => fcN off fun off => fcN len fun len => fcN cap fun cap => K (.sl b off len cap)
noncomputable def fcU (b off len cap : Nat) (K : CA → R) : R := fcN b fun b => fcN off fun off => fcN len fun len => fcN cap fun cap => K (.slu b off len cap)
noncomputable def fcA (a : CA) (K : CA → R) : R := CA.rec (motive := fun _ => (CA → R) → R) fcV (fun n K => K (.sym n)) fcP fcS fcU (fun g ps K => K (.fn g ps)) a K
noncomputable def frcL (l : List CA) (K : List CA → R) : R := List.rec (motive := fun _ => (List CA → R) → R) (fun K => K []) (fun a _ ih K => ih fun r => K (a :: r)) l K
noncomputable def spH (l : Hp) (K : Hp → R) : R := List.rec (motive := fun _ => (Hp → R) → R) (fun K => K []) (fun a _ ih K => ih fun r => K (a :: r)) l K
noncomputable def frcPs : List CP → (List CP → R) → R
  | [], K => K []
  | .one a :: l, K => fcA a fun a => frcPs l fun r => K (.one a :: r)
  | .ag cs :: l, K => frcL cs fun cs => frcPs l fun r => K (.ag cs :: r)
noncomputable def frcV (v : CV) (K : CV → R) : R := match v with
  | .p (.one a) => fcA a fun a => K (.p (.one a))
  | .p (.ag cs) => frcL cs fun cs => K (.p (.ag cs))
  | .tup l => frcPs l fun l => K (.tup l)
noncomputable def frcH : Hp → (Hp → R) → R
  | [], K => K []
  | (b, ⟨t, cs, sl⟩) :: l, K => fcN b fun b => frcL cs fun cs => frcH l fun r => K ((b, ⟨t, cs, sl⟩) :: r)
noncomputable def frcO (o : Out) (K : Out → R) : R := match o with
  | ⟨v, news, nx, T, U, rd⟩ => frcV v fun v => frcH news fun news => frcH U fun U => K ⟨v, news, nx, T, U, rd⟩
noncomputable def spO (o : Out) (K : Out → R) : R := match o with
  | ⟨v, news, nx, T, U, rd⟩ => frcV v fun v => spH news fun news => spH U fun U => K ⟨v, news, nx, T, U, rd⟩
/-- blocks behind an operation -/
def appK : Hp → Hp → (Hp → R) → R
  | [], H, K => K H
  | p :: l, H, K => appK l H fun r => K (p :: r)
def dropK (T : List Nat) : Hp → (Hp → R) → R
  | [], K => K []
  | p :: l, K => match p with
    | (b, k) => match memN T b with
      | true => dropK T l K
      | false => dropK T l fun r => K ((b, k) :: r)
noncomputable def drop1S (p : Nat × CB) (_ : Hp) (ih : Nat → (Hp → R) → R) (b : Nat) (K : Hp → R) : R := Prod.rec (motive := fun _ => (Nat → (Hp → R) → R) → Nat → (Hp → R) → R) (fun b' k ih b K => Bool.rec (ih b fun r => K ((b', k) :: r)) (ih b K) (Nat.beq b b')) p ih b K
noncomputable def drop1K (b : Nat) (H : Hp) (K : Hp → R) : R := List.rec (motive := fun _ => Nat → (Hp → R) → R) (fun _ K => K []) drop1S H b K
noncomputable def nextK (H news : Hp) (T : List Nat) (U : Hp) (K : Hp → R) : R := match T with
  | [] => appK news H K
  | [b] => drop1K b H fun H => appK U H fun H => appK news H K
  | T => dropK T H fun H => appK U H fun H => appK news H K
def addK (n0 : Nat) : List Nat → List Nat → (List Nat → R) → R
  | [], l, K => K l
  | b :: m, l, K => match Nat.blt b n0 && !memN l b with
    | true => addK n0 m (b :: l) K
    | false => addK n0 m l K
/-- numbers of sixty-four bits that are no less than 0 -/
noncomputable def i64K (r : Nat) (K : CV → R) (d : R) : R := Bool.rec d (fcN r fun r => K (.p (.one (.lit (.int .i64 (.ofNat r)))))) (Nat.blt r 9223372036854775808)
noncomputable def u64K (r : Nat) (K : CV → R) (_ : R) : R := fcN (Nat.mod r 18446744073709551616) fun r => K (.p (.one (.lit (.int .u64 (.ofNat r)))))
def noB (_ : Nat) (_ : CV → R) (d : R) : R := d
noncomputable def b64 (k : IntKind) (r : Nat) (K : CV → R) (d : R) : R := IntKind.rec (motive := fun _ => Nat → (CV → R) → R → R) noB noB noB i64K noB noB noB u64K k r K d
noncomputable def u64R (r : Nat) (K : CV → R) (d : R) : R := Bool.rec d (fcN r fun r => K (.p (.one (.lit (.int .u64 (.ofNat r)))))) (Nat.blt r 18446744073709551616)
noncomputable def r64 (k : IntKind) (r : Nat) (K : CV → R) (d : R) : R := IntKind.rec (motive := fun _ => Nat → (CV → R) → R → R) noB noB noB i64K noB noB noB u64R k r K d
noncomputable def kB (b : Bool) (K : CV → R) : R := Bool.rec (K (.p (.one (.lit (.bool false))))) (K (.p (.one (.lit (.bool true))))) b
abbrev N64 := IntKind → Nat → Nat → (CV → R) → R → R
noncomputable def nAdd : N64 := fun k a b K d => b64 k (Nat.add a b) K d
noncomputable def nMul : N64 := fun k a b K d => b64 k (Nat.mul a b) K d
noncomputable def nSub : N64 := fun k a b K d => Bool.rec d (b64 k (Nat.sub a b) K d) (Nat.ble b a)
noncomputable def nEql : N64 := fun _ a b K _ => kB (Nat.beq a b) K
noncomputable def nNeq : N64 := fun _ a b K _ => kB (Bool.rec true false (Nat.beq a b)) K
noncomputable def nLss : N64 := fun _ a b K _ => kB (Nat.blt a b) K
noncomputable def nLeq : N64 := fun _ a b K _ => kB (Nat.ble a b) K
noncomputable def nGtr : N64 := fun _ a b K _ => kB (Nat.blt b a) K
noncomputable def nGeq : N64 := fun _ a b K _ => kB (Nat.ble b a) K
noncomputable def nQuo : N64 := fun k a b K d => Bool.rec (b64 k (Nat.div a b) K d) d (Nat.beq b 0)
noncomputable def nRem : N64 := fun k a b K d => Bool.rec (r64 k (Nat.mod a b) K d) d (Nat.beq b 0)
noncomputable def nAnd : N64 := fun k a b K d => b64 k (Nat.land a b) K d
noncomputable def nOr : N64 := fun k a b K d => b64 k (Nat.lor a b) K d
noncomputable def nShr : N64 := fun k a b K d => Bool.rec d (r64 k (Nat.div a (Nat.pow 2 b)) K d) (Nat.blt b 64)
noncomputable def nShl : N64 := fun k a b K d => Bool.rec d (b64 k (Nat.mul a (Nat.pow 2 b)) K d) (Nat.blt b 64)
def nNo : N64 := fun _ _ _ _ d => d
noncomputable def n64 (op : BinOp) : N64 := BinOp.rec (motive := fun _ => N64) nAdd nSub nMul nQuo nRem nAnd nOr nNo nShl nShr nNo nEql nNeq nLss nLeq nGtr nGeq op
noncomputable def isI (k : IntKind) : Bool := IntKind.rec (motive := fun _ => Bool) false false false true false false false false k
noncomputable def isU (k : IntKind) : Bool := IntKind.rec (motive := fun _ => Bool) false false false false false false false true k
noncomputable def sh64 (op : BinOp) : Bool := BinOp.rec (motive := fun _ => Bool) false false false false false false false false true true false false false false false false false op
noncomputable def same64 (op : BinOp) (k k' : IntKind) : Bool := IntKind.rec (motive := fun _ => BinOp → IntKind → Bool) (fun _ _ => false) (fun _ _ => false) (fun _ _ => false) (fun op k' => Bool.rec (isI k') true (sh64 op)) (fun _ _ => false) (fun _ _ => false) (fun _ _ => false) (fun op k' => Bool.rec (isU k') true (sh64 op)) k op k'
/-- numbers no less than 0, else another way -/
noncomputable def nkL (K : IntKind → Nat → R) (d : R) (v : LV) : R := LV.rec (motive := fun _ => (IntKind → Nat → R) → R → R) (fun k n K d => Int.rec (motive := fun _ => IntKind → (IntKind → Nat → R) → R → R) (fun n k K _ => K k n) (fun _ _ _ d => d) n k K d) (fun _ _ d => d) (fun _ d => d) v K d
noncomputable def nkA (a : CA) (K : IntKind → Nat → R) (d : R) : R := CA.rec (motive := fun _ => (IntKind → Nat → R) → R → R) (fun v K d => nkL K d (lvOf v)) (fun _ _ d => d) (fun _ _ _ d => d) (fun _ _ _ _ _ d => d) (fun _ _ _ _ _ d => d) (fun _ _ _ d => d) a K d
noncomputable def nkP (p : CP) (K : IntKind → Nat → R) (d : R) : R := CP.rec (motive := fun _ => (IntKind → Nat → R) → R → R) nkA (fun _ _ d => d) p K d
noncomputable def nk (v : CV) (K : IntKind → Nat → R) (d : R) : R := CV.rec (motive := fun _ => (IntKind → Nat → R) → R → R) nkP (fun _ _ d => d) v K d
noncomputable def slow (c : Cfg) (op : BinOp) (t : Nat) (lit : Bool) (x y : CV) (K : CV → R) : R := match evBin c op t lit x y with
  | some v => frcV v K
  | none => none
noncomputable def binK2 (op : BinOp) (K : CV → R) (d : R) (k : IntKind) (a : Nat) (k' : IntKind) (b : Nat) : R := Bool.rec d (n64 op k a b K d) (same64 op k k')
noncomputable def binK1 (op : BinOp) (y : CV) (K : CV → R) (d : R) (k : IntKind) (a : Nat) : R := nk y (binK2 op K d k a) d
noncomputable def binK (c : Cfg) (op : BinOp) (t : Nat) (lit : Bool) (x y : CV) (K : CV → R) : R := nk x (binK1 op y K (slow c op t lit x y K)) (slow c op t lit x y K)
/-- what stays the same in a function -/
structure Cx where
  c : Cfg
  sz : Nat
  call : CallF
  n0 : Nat
abbrev SeqF := Tr → Hp → Nat → List Nat → List Lg → R
abbrev OpF := Cx → SeqF → Tr → Hp → Nat → List Nat → List Lg → R
def lg0 (n : Nat) : Lg := ⟨n, n, [], []⟩
def contP2 (ih : SeqF) (H : Hp) (n : Nat) (T : List Nat) (lg : List Lg) (env : Tr) : R := ih env H n T (lg0 n :: lg)
/-- behind a value alone -/
noncomputable def contP (d : XD) (ih : SeqF) (env : Tr) (H : Hp) (n : Nat) (T : List Nat) (lg : List Lg) (v : CV) : R := putK d env v (contP2 ih H n T lg)
def contR2 (b : Nat) (ih : SeqF) (H : Hp) (n : Nat) (T : List Nat) (lg : List Lg) (env : Tr) : R := ih env H n T (⟨n, n, [], [b]⟩ :: lg)
/-- behind a value read from a block -/
noncomputable def contR (d : XD) (ih : SeqF) (env : Tr) (H : Hp) (n : Nat) (T : List Nat) (lg : List Lg) (b : Nat) (v : CV) : R := putK d env v (contR2 b ih H n T lg)
def contN3 (k : CB) (ih : SeqF) (H : Hp) (n : Nat) (T : List Nat) (lg : List Lg) (env : Tr) (nx : Nat) : R := ih env ((n, k) :: H) nx T (⟨n, nx, [], []⟩ :: lg)
noncomputable def contN2 (k : CB) (ih : SeqF) (H : Hp) (n : Nat) (T : List Nat) (lg : List Lg) (env : Tr) : R := fcN (Nat.add n 1) (contN3 k ih H n T lg env)
/-- behind a value beside a new block -/
noncomputable def contN (d : XD) (ih : SeqF) (env : Tr) (H : Hp) (n : Nat) (T : List Nat) (lg : List Lg) (v : CV) (k : CB) : R := putK d env v (contN2 k ih H n T lg)
def contO5 (nx : Nat) (T' : List Nat) (rd : Hp) (ih : SeqF) (n : Nat) (lg : List Lg) (env : Tr) (H : Hp) (T : List Nat) : R := ih env H nx T (⟨n, nx, T', namesH rd⟩ :: lg)
noncomputable def contO4 (nx : Nat) (T' : List Nat) (rd : Hp) (cx : Cx) (ih : SeqF) (n : Nat) (T : List Nat) (lg : List Lg) (env : Tr) (H : Hp) : R := addK cx.n0 T' T (contO5 nx T' rd ih n lg env H)
noncomputable def contO3 (news : Hp) (T' : List Nat) (U rd : Hp) (cx : Cx) (ih : SeqF) (H : Hp) (n : Nat) (T : List Nat) (lg : List Lg) (env : Tr) (nx : Nat) : R := nextK H news T' U (contO4 nx T' rd cx ih n T lg env)
noncomputable def contO2 (news : Hp) (nx : Nat) (T' : List Nat) (U rd : Hp) (cx : Cx) (ih : SeqF) (H : Hp) (n : Nat) (T : List Nat) (lg : List Lg) (env : Tr) : R := fcN nx (contO3 news T' U rd cx ih H n T lg env)
noncomputable def contO1 (v : CV) (news : Hp) (nx : Nat) (T' : List Nat) (U rd : Hp) (d : XD) (cx : Cx) (ih : SeqF) (env : Tr) (H : Hp) (n : Nat) (T : List Nat) (lg : List Lg) : R := putK d env v (contO2 news nx T' U rd cx ih H n T lg)
/-- behind whatever -/
noncomputable def contO (d : XD) (cx : Cx) (ih : SeqF) (env : Tr) (H : Hp) (n : Nat) (T : List Nat) (lg : List Lg) (o : Out) : R := Out.rec (motive := fun _ => XD → OpF) contO1 o d cx ih env H n T lg
noncomputable def opMv (x : XX) (d : XD) : OpF := fun _ ih env H n T lg => xX x env (contP d ih env H n T lg)
noncomputable def pick1 (a b : XX) (env : Tr) (K : CV → R) (v : CV) : R := boolK v (xX a env K) (xX b env K)
noncomputable def opPick (x a b : XX) (d : XD) : OpF := fun _ ih env H n T lg => xX x env (pick1 a b env (contP d ih env H n T lg))
def ld1e (K : Nat → CV → R) (b : Nat) (a : CA) : R := K b (.p (.one a))
noncomputable def ld1d (_ : Nat) (cs : List CA) (_ : Option Nat) (K : Nat → CV → R) (b off : Nat) : R := nthK (ld1e K b) cs off
noncomputable def ld1c (K : Nat → CV → R) (b off : Nat) (k : CB) : R := CB.rec (motive := fun _ => (Nat → CV → R) → Nat → Nat → R) ld1d k K b off
noncomputable def ld1b (H : Hp) (K : Nat → CV → R) (b off : Nat) : R := findK (ld1c K b off) b H
noncomputable def ld1a (H : Hp) (K : Nat → CV → R) (v : CV) : R := ptrK v (ld1b H K)
noncomputable def opLd1 (x : XX) (d : XD) : OpF := fun _ ih env H n T lg => xX x env (ld1a H (contR d ih env H n T lg))
def ldAf (K : Nat → CV → R) (b : Nat) (cs : List CA) : R := K b (.p (.ag cs))
noncomputable def ldAe (K : Nat → CV → R) (b m : Nat) (l : List CA) : R := takeK m l (ldAf K b)
noncomputable def ldAd (_ : Nat) (cs : List CA) (_ : Option Nat) (m : Nat) (K : Nat → CV → R) (b off : Nat) : R := at1 cs off (ldAe K b m)
noncomputable def ldAc (m : Nat) (K : Nat → CV → R) (b off : Nat) (k : CB) : R := CB.rec (motive := fun _ => Nat → (Nat → CV → R) → Nat → Nat → R) ldAd k m K b off
noncomputable def ldAb (m : Nat) (H : Hp) (K : Nat → CV → R) (b off : Nat) : R := findK (ldAc m K b off) b H
noncomputable def ldAa (m : Nat) (H : Hp) (K : Nat → CV → R) (v : CV) : R := ptrK v (ldAb m H K)
noncomputable def opLdA (m : Nat) (x : XX) (d : XD) : OpF := fun _ ih env H n T lg => xX x env (ldAa m H (contR d ih env H n T lg))
def stE (n : Nat) (K : Out → R) (t : Nat) (cs : List CA) (sl : Option Nat) (b : Nat) (cs' : List CA) : R := K ⟨uv0, [], n, [b], [(b, ⟨t, cs', sl⟩)], [(b, ⟨t, cs, sl⟩)]⟩
noncomputable def stD (t : Nat) (cs : List CA) (sl : Option Nat) (n : Nat) (K : Out → R) (b off : Nat) (a : CA) : R := Bool.rec none (cellK a cs off (stE n K t cs sl b)) (okA a)
noncomputable def stC (n : Nat) (K : Out → R) (b off : Nat) (a : CA) (k : CB) : R := CB.rec (motive := fun _ => Nat → (Out → R) → Nat → Nat → CA → R) stD k n K b off a
noncomputable def stB2 (H : Hp) (n : Nat) (K : Out → R) (b off : Nat) (a : CA) : R := findK (stC n K b off a) b H
noncomputable def stB (H : Hp) (n : Nat) (K : Out → R) (u : CV) (b off : Nat) : R := oneK u (stB2 H n K b off)
noncomputable def stA2 (H : Hp) (n : Nat) (K : Out → R) (v u : CV) : R := ptrK v (stB H n K u)
noncomputable def stA (y : XX) (env : Tr) (H : Hp) (n : Nat) (K : Out → R) (v : CV) : R := xX y env (stA2 H n K v)
noncomputable def opSt1 (x y : XX) (d : XD) : OpF := fun cx ih env H n T lg => xX x env (stA y env H n (contO d cx ih env H n T lg))
def fa3 (K : CV → R) (b o : Nat) : R := K (.p (.one (.ptr b o)))
noncomputable def fa2 (f : Nat) (K : CV → R) (b off : Nat) : R := fcN (Nat.add off f) (fa3 K b)
noncomputable def fa1 (f : Nat) (K : CV → R) (v : CV) : R := ptrK v (fa2 f K)
noncomputable def opFa (f : Nat) (x : XX) (d : XD) : OpF := fun _ ih env H n T lg => xX x env (fa1 f (contP d ih env H n T lg))
noncomputable def ia4 (m : Nat) (K : CV → R) (i b off len : Nat) : R := Bool.rec none (fcN (Nat.add off (Nat.mul i m)) (fa3 K b)) (Nat.blt i len)
noncomputable def ia3 (m : Nat) (K : CV → R) (v : CV) (i : Nat) : R := slK v (ia4 m K i)
noncomputable def ia2 (m : Nat) (K : CV → R) (v u : CV) : R := natK u (ia3 m K v)
noncomputable def ia1 (m : Nat) (i : XX) (env : Tr) (K : CV → R) (v : CV) : R := xX i env (ia2 m K v)
noncomputable def opIa (m : Nat) (x i : XX) (d : XD) : OpF := fun _ ih env H n T lg => xX x env (ia1 m i env (contP d ih env H n T lg))
noncomputable def bin2 (c : Cfg) (op : BinOp) (t : Nat) (lit : Bool) (K : CV → R) (v u : CV) : R := binK c op t lit v u K
noncomputable def bin1 (c : Cfg) (op : BinOp) (t : Nat) (lit : Bool) (y : XX) (env : Tr) (K : CV → R) (v : CV) : R := xX y env (bin2 c op t lit K v)
noncomputable def opBin (op : BinOp) (t : Nat) (lit : Bool) (x y : XX) (d : XD) : OpF := fun cx ih env H n T lg => xX x env (bin1 cx.c op t lit y env (contP d ih env H n T lg))
noncomputable def boxA (a : CA) (t n : Nat) (K : CV → CB → R) : R := Bool.rec none (K (.p (.one (.ptr n 0))) ⟨t, [a], none⟩) (okA a)
noncomputable def boxL (cs : List CA) (t n : Nat) (K : CV → CB → R) : R := Bool.rec none (K (.p (.one (.ptr n 0))) ⟨t, cs, none⟩) (litsOk cs)
noncomputable def boxP (p : CP) (t n : Nat) (K : CV → CB → R) : R := CP.rec (motive := fun _ => Nat → Nat → (CV → CB → R) → R) boxA boxL p t n K
noncomputable def box1 (t n : Nat) (K : CV → CB → R) (v : CV) : R := CV.rec (motive := fun _ => Nat → Nat → (CV → CB → R) → R) boxP (fun _ _ _ _ => none) v t n K
noncomputable def opBox (t : Nat) (x : XX) (d : XD) : OpF := fun _ ih env H n T lg => xX x env (box1 t n (contN d ih env H n T lg))
def callNo (_ : XD) : OpF := fun _ _ _ _ _ _ _ => none
noncomputable def callYes (o : Out) (d : XD) : OpF := fun cx ih env H n T lg => contO d cx ih env H n T lg o
noncomputable def call1 (f : Nat) (d : XD) (cx : Cx) (ih : SeqF) (env : Tr) (H : Hp) (n : Nat) (T : List Nat) (lg : List Lg) (l : List CV) : R := Option.rec (motive := fun _ => XD → OpF) callNo callYes (cx.call f l H n) d cx ih env H n T lg
noncomputable def opCall (f : Nat) (xs : List XX) (d : XD) : OpF := fun cx ih env H n T lg => argsK env xs (call1 f d cx ih env H n T lg)
noncomputable def extS (p : CP) (_ : List CP) (ih : Nat → (CV → R) → R) (i : Nat) (K : CV → R) : R := Nat.rec (K (.p p)) (fun i _ => ih i K) i
noncomputable def extT (l : List CP) (i : Nat) (K : CV → R) : R := List.rec (motive := fun _ => Nat → (CV → R) → R) (fun _ _ => none) extS l i K
noncomputable def ext1 (i : Nat) (K : CV → R) (v : CV) : R := CV.rec (motive := fun _ => Nat → (CV → R) → R) (fun _ _ _ => none) extT v i K
noncomputable def opExt (x : XX) (i : Nat) (d : XD) : OpF := fun _ ih env H n T lg => xX x env (ext1 i (contP d ih env H n T lg))
noncomputable def nt1 (K : CV → R) (v : CV) : R := boolK v (K (.p (.one (.lit (.bool false))))) (K (.p (.one (.lit (.bool true)))))
noncomputable def opNt (x : XX) (d : XD) : OpF := fun _ ih env H n T lg => xX x env (nt1 (contP d ih env H n T lg))
noncomputable def oldK (K : Out → R) (o : Option Out) : R := match o with
  | some o => frcO o K
  | none => none
noncomputable def opOld (op : Op) (d : XD) : OpF := fun cx ih env H n T lg => oldK (contO d cx ih env H n T lg) (evOp cx.c cx.call (evX env cx.sz) op H n)
noncomputable def cv2 (k : IntKind) (K : CV → R) (d : R) (_ : IntKind) (a : Nat) : R := b64 k a K d
noncomputable def cv1 (k : IntKind) (K : CV → R) (d : R) (v : CV) : R := nk v (cv2 k K d) d
noncomputable def opCv (k : IntKind) (op : Op) (x : XX) (d : XD) : OpF := fun cx ih env H n T lg => xX x env (cv1 k (contP d ih env H n T lg) (opOld op d cx ih env H n T lg))
noncomputable def nil2 (K : CV → R) (a : CA) : R := CA.rec (motive := fun _ => (CV → R) → R) (fun _ _ => none) (fun _ _ => none) (fun b off K => K (.p (.one (.ptr b off)))) (fun _ _ _ _ _ => none) (fun _ _ _ _ _ => none) (fun f l K => K (.p (.one (.fn f l)))) a K
noncomputable def nil1 (K : CV → R) (v : CV) : R := oneK v (nil2 K)
noncomputable def opNil (x : XX) (d : XD) : OpF := fun _ ih env H n T lg => xX x env (nil1 (contP d ih env H n T lg))
def len3 (K : CV → R) (n : Nat) : R := K (.p (.one (.lit (.int .i64 (.ofNat n)))))
noncomputable def lenA (a : CA) (K : CV → R) (d : R) : R := CA.rec (motive := fun _ => (CV → R) → R → R) (fun _ _ d => d) (fun _ _ d => d) (fun _ _ _ d => d) (fun _ _ len _ K _ => len3 K len) (fun _ _ len _ K _ => len3 K len) (fun _ _ _ d => d) a K d
noncomputable def lenP (p : CP) (K : CV → R) (d : R) : R := CP.rec (motive := fun _ => (CV → R) → R → R) lenA (fun _ _ d => d) p K d
noncomputable def len1 (K : CV → R) (d : R) (v : CV) : R := CV.rec (motive := fun _ => (CV → R) → R → R) lenP (fun _ _ d => d) v K d
noncomputable def opLen (op : Op) (x : XX) (d : XD) : OpF := fun cx ih env H n T lg => xX x env (len1 (contP d ih env H n T lg) (opOld op d cx ih env H n T lg))
noncomputable def gdB (b want : Bool) (Y N : R) : R := Bool.rec (Bool.rec Y N want) (Bool.rec N Y want) b
noncomputable def gdL (v : LV) (want : Bool) (Y N : R) : R := LV.rec (motive := fun _ => Bool → R → R → R) (fun _ _ _ _ _ => none) gdB (fun _ _ _ => none) v want Y N
noncomputable def gdA (a : CA) (want : Bool) (Y N : R) : R := CA.rec (motive := fun _ => Bool → R → R → R) (fun v want Y N => gdL (lvOf v) want Y N) (fun _ _ _ _ => none) (fun _ _ _ _ _ => none) (fun _ _ _ _ _ _ _ => none) (fun _ _ _ _ _ _ _ => none) (fun _ _ _ _ _ => none) a want Y N
noncomputable def gdP (p : CP) (want : Bool) (Y N : R) : R := CP.rec (motive := fun _ => Bool → R → R → R) gdA (fun _ _ _ _ => none) p want Y N
noncomputable def gdT (l : List CP) (_ : Bool) (_ N : R) : R := List.rec (motive := fun _ => R → R) (fun N => N) (fun _ _ _ _ => none) l N
noncomputable def gd1 (want : Bool) (Y N : R) (v : CV) : R := CV.rec (motive := fun _ => Bool → R → R → R) gdP gdT v want Y N
noncomputable def opGd (x : XX) (want : Bool) (_ : XO) (d : XD) (rec : OpF) : OpF := fun cx ih env H n T lg => xX x env (gd1 want (rec cx ih env H n T lg) (contP d ih env H n T lg uv0))
def opBad : OpF := fun _ _ _ _ _ _ _ => none
noncomputable def xOp (o : XO) : OpF := XO.rec (motive := fun _ => OpF) opMv opPick opLd1 opLdA opSt1 opFa opIa opBin opBox opCall opExt opNt opCv opNil opLen opOld opGd opBad o
def digK {β : Type} (n : Nat) (K : D8 → β) : β := match n with
  | 0 => K .a | 1 => K .b | 2 => K .c | 3 => K .d | 4 => K .e | 5 => K .f | 6 => K .g | _ => K .h
def cS (sz t : Nat) : XX := match Nat.blt t sz && Nat.blt t 500 with
  | true => digK (Nat.div t 64) fun i => digK (Nat.mod (Nat.div t 8) 8) fun j => digK (Nat.mod t 8) fun l => .sl i j l
  | false => .bad
def cD (sz : Nat) (d : Option Tmp) : XD := match d with
  | none => .no
  | some t => match Nat.blt t sz && Nat.blt t 500 with
    | true => digK (Nat.div t 64) fun i => digK (Nat.mod (Nat.div t 8) 8) fun j => digK (Nat.mod t 8) fun l => .to i j l
    | false => .bad
def cK (v : Value) : XX := match v with
  | .int k n => frcI n fun n => .k (.p (.one (.lit (.int k n))))
  | .bool b => (match b with
    | true => .k (.p (.one (.lit (.bool true))))
    | false => .k (.p (.one (.lit (.bool false)))))
  | v => .k (ofVal v)
def cX (sz : Nat) (x : Operand) : XX := match x with
  | .tmp t => cS sz t
  | .const v => cK v
  | .func f => .k (.p (.one (.fn f [])))
  | .global _ => .bad
def cXs (sz : Nat) : List Operand → List XX
  | [] => []
  | x :: l => cX sz x :: cXs sz l
def cP (c : Cfg) (sz : Nat) (op : Op) (d : XD) : XO := match op with
  | .move x => .mv (cX sz x) d
  | .assign x => .mv (cX sz x) d
  | .pick x a b => .pick (cX sz x) (cX sz a) (cX sz b) d
  | .load t x => (match c.ty t with
    | some ti => (match ti.agg with
      | true => (match ti.size with
        | 0 => .old op d
        | m + 1 => .ldA (Nat.succ m) (cX sz x) d)
      | false => .ld1 (cX sz x) d)
    | none => .old op d)
  | .store t x y => (match c.ty t with
    | some ti => (match ti.agg, Nat.beq ti.size 1 with
      | false, true => .st1 (cX sz x) (cX sz y) d
      | _, _ => .old op d)
    | none => .old op d)
  | .fieldAddr t x f => (match c.ty t with
    | some ti => (match Nat.beq ti.kind 1 || Nat.beq ti.kind 8, ti.fields[f]? with
      | true, some (o, s, _) => (match s with
        | 0 => .old op d
        | _ + 1 => .fa o (cX sz x) d)
      | _, _ => .old op d)
    | none => .old op d)
  | .indexAddr t x i => (match c.ty t with
    | some ti => (match Nat.beq ti.kind 3, c.ty ti.elem with
      | true, some te => .ia te.size (cX sz x) (cX sz i) d
      | _, _ => .old op d)
    | none => .old op d)
  | .binOp op t x y _ => .bin op t (isConst x || isConst y) (cX sz x) (cX sz y) d
  | .unOp .not _ x => .nt (cX sz x) d
  | .convert s t x => (match c.ty s, c.ty t with
    | some _, some ti => (match ti.ik with
      | some k => .cv k op (cX sz x) d
      | none => .old op d)
    | _, _ => .old op d)
  | .nilCheck x => .nil (cX sz x) d
  | .box t x => .box t (cX sz x) d
  | .call k => (match k.callee, k.args.toList, k.argTypes.toList with
    | .value (.func f), l, _ => .call f (cXs sz l) d
    | .builtin .len, [x], [t] => (match c.ty t with
      | some ti => (match Nat.beq ti.kind 3 with
        | true => .len op (cX sz x) d
        | false => .old op d)
      | none => .old op d)
    | _, _, _ => .old op d)
  | .extract x i => .ext (cX sz x) i d
  | op => .old op d
def cO (c : Cfg) (ops : List Oper) (sz : Nat) (o : Oper) : XO := match o.guard with
  | none => cP c sz o.op (cD sz o.dst)
  | some (j, w) => match ops[j]? with
    | none => .bad
    | some g => match g.dst with
      | none => .bad
      | some t => .gd (cS sz t) w (cP c sz o.op (cD sz o.dst)) (cD sz o.dst)
def cL (c : Cfg) (ops : List Oper) (sz : Nat) : List Oper → List XO
  | [] => []
  | o :: l => cO c ops sz o :: cL c ops sz l
def cC (c : Cfg) (sz : Nat) : Code → XC
  | .skip => .skip
  | .label _ => .skip
  | .region _ ops draw => .reg (cL c ops.toList sz ops.toList) ops draw
  | .seq a b => .seq (cC c sz a) (cC c sz b)
  | .cond x a b => .cond (cX sz x) (cC c sz a) (cC c sz b)
  | .block id a => .block id (cC c sz a)
  | .loop a => .loop (cC c sz a)
  | .exit id => .exit id
  | .ret => .ret
  | _ => .bad
noncomputable def seqS (o : XO) (_ : List XO) (ih : Cx → SeqF → SeqF) (cx : Cx) (fin : SeqF) (env : Tr) (H : Hp) (n : Nat) (T : List Nat) (lg : List Lg) : R := xOp o cx (ih cx fin) env H n T lg
noncomputable def xSeq (l : List XO) (cx : Cx) (fin : SeqF) : SeqF := List.rec (motive := fun _ => Cx → SeqF → SeqF) (fun _ fin => fin) seqS l cx fin
abbrev CodeK := Ex → Tr → Hp → Nat → List Nat → R
abbrev CodeF := Cx → Tr → Hp → Nat → List Nat → CodeK → R
def fin0 (K : CodeK) : SeqF := fun env H n T _ => K .nm env H n T
/-- does an operation neither write nor make anything? -/
def stillL (x : Lg) : Bool := match x.T with
  | [] => Nat.beq x.n0 x.n1
  | _ => false
def clash (x y : Lg) : Bool := meetN y.T x.rd || (meetN x.T y.rd || inN x.rd y.n0 y.n1)
noncomputable def okPs (ms : List Nat) (j : Nat) (x : Lg) (p : Nat × Lg) (_ : List (Nat × Lg)) (ih : Bool) : Bool := Bool.rec ih (Bool.rec false ih (Nat.testBit (ms.getD j 0) p.1)) (clash x p.2)
noncomputable def okP (ms : List Nat) (j : Nat) (x : Lg) (l : List (Nat × Lg)) : Bool := List.rec (motive := fun _ => Bool) true (okPs ms j x) l
noncomputable def okX (ms : List Nat) (j : Nat) (x : Lg) (E W : List (Nat × Lg)) : Bool := match x.T with
  | [] => (match x.rd with
    | [] => true
    | _ => okP ms j x W)
  | _ => okP ms j x E
abbrev FF := Nat → List (Nat × Lg) → List (Nat × Lg) → Bool
noncomputable def okFs (ms : List Nat) (x : Lg) (_ : List Lg) (ih : FF) (j : Nat) (E W : List (Nat × Lg)) : Bool := Bool.rec false (Bool.rec (ih (Nat.succ j) ((j, x) :: E) ((j, x) :: W)) (ih (Nat.succ j) ((j, x) :: E) W) (stillL x)) (okX ms j x E W)
/-- each against those before it, where one of them writes or makes something -/
noncomputable def okF (ms : List Nat) (l : List Lg) : FF := List.rec (motive := fun _ => FF) (fun _ _ _ => true) (okFs ms) l
noncomputable def finC (b c : Bool) (K : R) : R := Bool.rec (Bool.rec K none c) K b
noncomputable def fin1 (n0 : Nat) (oo : Array Oper) (K : CodeK) : SeqF := fun env H n T lg => finC (okF (masks oo.toList []) lg.reverse 0 [] []) (anyT n0 lg) (K .nm env H n T)
noncomputable def finB (draw : Bool) (n : Nat) (oo : Array Oper) (K : CodeK) : SeqF := Bool.rec (fin0 K) (fin1 n oo K) draw
noncomputable def cReg (l : List XO) (oo : Array Oper) (draw : Bool) : CodeF := fun cx env H n T K => xSeq l cx (finB draw n oo K) env H n T []
def cSkip : CodeF := fun _ env H n T K => K .nm env H n T
noncomputable def thenK (f : CodeF) (cx : Cx) (K : CodeK) (ex : Ex) (env : Tr) (H : Hp) (n : Nat) (T : List Nat) : R := Ex.rec (motive := fun _ => CodeF → Cx → CodeK → Tr → Hp → Nat → List Nat → R) (fun f cx K env H n T => f cx env H n T K) (fun id _ _ K env H n T => K (.ex id) env H n T) (fun _ _ K env H n T => K .rt env H n T) ex f cx K env H n T
noncomputable def cSeq (_ _ : XC) (fa fb : CodeF) : CodeF := fun cx env H n T K => fa cx env H n T (thenK fb cx K)
noncomputable def cond1 (fa fb : CodeF) (cx : Cx) (env : Tr) (H : Hp) (n : Nat) (T : List Nat) (K : CodeK) (v : CV) : R := boolK v (fa cx env H n T K) (fb cx env H n T K)
noncomputable def cCond (x : XX) (_ _ : XC) (fa fb : CodeF) : CodeF := fun cx env H n T K => xX x env (cond1 fa fb cx env H n T K)
noncomputable def blockK (id : Nat) (K : CodeK) (ex : Ex) (env : Tr) (H : Hp) (n : Nat) (T : List Nat) : R := Ex.rec (motive := fun _ => Nat → CodeK → Tr → Hp → Nat → List Nat → R) (fun _ K env H n T => K .nm env H n T) (fun i id K env H n T => Bool.rec (K (.ex i) env H n T) (K .nm env H n T) (Nat.beq i id)) (fun _ K env H n T => K .rt env H n T) ex id K env H n T
noncomputable def cBlock (id : Nat) (_ : XC) (fa : CodeF) : CodeF := fun cx env H n T K => fa cx env H n T (blockK id K)
noncomputable def loopS (_ : Nat) (ih : CodeF → CodeF) (f : CodeF) : CodeF := fun cx env H n T K => f cx env H n T (thenK (ih f) cx K)
noncomputable def xLoop (k : Nat) (f : CodeF) : CodeF := Nat.rec (motive := fun _ => CodeF → CodeF) (fun _ _ _ _ _ _ _ => none) loopS k f
noncomputable def cLoop (_ : XC) (fa : CodeF) : CodeF := xLoop 700 fa
def cExit (id : Nat) : CodeF := fun _ env H n T K => K (.ex id) env H n T
def cRet : CodeF := fun _ env H n T K => K .rt env H n T
def cBad : CodeF := fun _ _ _ _ _ _ => none
noncomputable def xCode (x : XC) : CodeF := XC.rec (motive := fun _ => CodeF) cSkip cReg cSeq cCond cBlock cLoop cExit cRet cBad x
def l8 (a b c d e f g h : CV) : Tr := ⟨⟨⟨a, b, c, d, e, f, g, h⟩, e1, e1, e1, e1, e1, e1, e1⟩, e2, e2, e2, e2, e2, e2, e2⟩
def envK (l : List CV) (K : Tr → R) : R := match l with
  | [] => K e3
  | [a] => K (l8 a uv0 uv0 uv0 uv0 uv0 uv0 uv0)
  | [a, b] => K (l8 a b uv0 uv0 uv0 uv0 uv0 uv0)
  | [a, b, c] => K (l8 a b c uv0 uv0 uv0 uv0 uv0)
  | [a, b, c, d] => K (l8 a b c d uv0 uv0 uv0 uv0)
  | [a, b, c, d, e] => K (l8 a b c d e uv0 uv0 uv0)
  | [a, b, c, d, e, f] => K (l8 a b c d e f uv0 uv0)
  | l => K (envOf l 0 e3)
noncomputable def endR (c : Cfg) (fn : Func) (H : Hp) (n : Nat) (env : Tr) (H' : Hp) (n' : Nat) (T : List Nat) : R := match resAll c ⟨env, fn.ntmps, H', n', T⟩ fn.results.toList with
  | none => none
  | some v => spO (outOf c n H v ⟨env, fn.ntmps, H', n', T⟩) some
noncomputable def endK (c : Cfg) (fn : Func) (H : Hp) (n : Nat) (ex : Ex) (env : Tr) (H' : Hp) (n' : Nat) (T : List Nat) : R := Ex.rec (endR c fn H n env H' n' T) (fun _ => none) (endR c fn H n env H' n' T) ex
noncomputable def xBody (c : Cfg) (call : CallF) (fn : Func) (b : Code) (H : Hp) (n : Nat) (env : Tr) : R :=
  xCode (cC c fn.ntmps b) ⟨c, fn.ntmps, call, n⟩ env H n [] (endK c fn H n)
noncomputable def xFunc (c : Cfg) (call : CallF) (fn : Func) (args : List CV) (H : Hp) (n : Nat) : R :=
  match fn.body with
  | none => none
  | some b =>
    match Nat.ble args.length fn.ntmps && Nat.ble fn.ntmps 500 with
    | false => none
    | true => spH (gc c 2000 (namesVs args) H []) fun H => envK args (xBody c call fn b H n)
def shA (n : Nat) : CA → CA
  | .ptr b off => .ptr (Nat.add b n) off
  | .sl b off len cap => .sl (Nat.add b n) off len cap
  | .slu b off len cap => .slu (Nat.add b n) off len cap
  | .fn f ps => .fn f (ps.map fun p => (Nat.add p.1 n, p.2))
  | a => a
def shL (n : Nat) : List CA → List CA
  | [] => []
  | a :: l => shA n a :: shL n l
def shP (n : Nat) : CP → CP
  | .one a => .one (shA n a)
  | .ag cs => .ag (shL n cs)
def shPs (n : Nat) : List CP → List CP
  | [] => []
  | a :: l => shP n a :: shPs n l
def shV (n : Nat) : CV → CV
  | .p p => .p (shP n p)
  | .tup l => .tup (shPs n l)
def shH (n : Nat) : Hp → Hp
  | [] => []
  | (b, ⟨t, cs, sl⟩) :: l => (Nat.add b n, ⟨t, shL n cs, sl⟩) :: shH n l
/-- a call whose arguments name nothing, made where nothing is -/
noncomputable def shO (n : Nat) (o : Out) : R := match o with
  | ⟨v, news, nx, _, _, _⟩ => match news, namesV v with
    | [], [] => some ⟨v, [], n, [], [], []⟩
    | _, _ => frcV (shV n v) fun v => frcH (shH n news) fun news => fcN (Nat.add nx n) fun nx => some ⟨v, news, nx, [], [], []⟩
noncomputable def xCall (c : Cfg) (orc : CallF) (hi : Nat → Nat) (d : Nat) : CallF := Nat.rec (fun _ _ _ _ => none) (fun d ih f args H n => match Nat.ble (hi f) d with
  | true => ih f args H n
  | false => match orc f args H n with
    | some o => some o
    | none => match c.fn f with
      | none => none
      | some fn => match namesVs args with
        | [] => (match xFunc c ih fn args [] 0 with
          | some o => shO n o
          | none => none)
        | _ => xFunc c ih fn args H n) d
end Go.Proofs.YtmlpimckfneliaaGreat.Ev
