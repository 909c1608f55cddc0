/- The layer, part 12: what an operation does, as a function. -/
import Derived.Test.YtikfkipalifohaaA11
namespace Go.Proofs.Ytikfkipalifohaa.A
open Go Go.RowKit

/-- What an operation does, if ok. -/
structure OpR where
  ok : Bool
  x : SV
  wr : Sto
  m : List Nat
  rd : List Nat
def badR : OpR := ⟨false, .junk, [], [], []⟩
def valR (ok : Bool) (x : SV) (rd : List Nat) : OpR := ⟨ok, x, [], [], rd⟩

def unE (op : UnOp) (x : SV) : OpR :=
  match op, x with
  | .not, .d (.bool b) => valR true (.d (.bool !b)) []
  | .neg, .d (.int k n) => valR true (.d (.int k (k.wrap (-n)))) []
  | _, _ => badR
def convE (s t : TK) (x : SV) : OpR :=
  match s, t, x with
  | .int k, .int k', .d (.int k'' n) => valR (decide (k = k'')) (.d (.int k' (k'.wrap n))) []
  | _, _, _ => badR
def intE (op : BinOp) (k k' : IntKind) (m n : Int) : OpR :=
  match op with
  | .quo => valR (decide (k = k') && decide (n ≠ 0)) (.d (.int k (k.wrap (m.tdiv n)))) []
  | .rem => valR (decide (k = k') && decide (n ≠ 0)) (.d (.int k (m.tmod n))) []
  | .shl => valR (decide (0 ≤ n)) (.d (.int k (k.wrap (m * 2 ^ min n.toNat k.bits)))) []
  | .shr => valR (decide (0 ≤ n)) (.d (.int k (m.fdiv (2 ^ min n.toNat k.bits)))) []
  | op => match binS op k m n with
    | some r => valR (decide (k = k')) r []
    | none => badR
def cmpE (P : Program) (op : BinOp) (t : TypeId) (x y : SV) : OpR :=
  match op with
  | .eql => valR (cmpOK P t x y) (.d (.bool (cmpB x y))) []
  | .neq => valR (cmpOK P t x y) (.d (.bool !cmpB x y)) []
  | _ => badR
def binE (P : Program) (op : BinOp) (t : TypeId) (x y : SV) : OpR :=
  match x, y with
  | .d (.int k m), .d (.int k' n) => intE op k k' m n
  | x, y => cmpE P op t x y
def loadE (I : TI) (S : Nat → Option Blk) (p : SV) : OpR :=
  match p with
  | .ptr i off => match S i with
    | some (.box cs) => if I.kind.agg = true then valR (I.ok && decide (off + I.size ≤ cs.length)) (.agg ((cs.drop off).take I.size)) [i] else valR (I.ok && decide (off < cs.length)) (cs.getD off .junk) [i]
    | _ => badR
  | .elt cs => if I.kind.agg = true then valR (I.ok && decide (I.size ≤ cs.length)) (.agg ((cs.take I.size).map .d)) [] else match cs with
    | p :: _ => valR I.ok (.d p) []
    | [] => badR
  | .oelt i j off => match S i with
    | some (.row _ _ rows) => if I.kind.agg = true then valR (I.ok && decide (off + I.size ≤ (rows.getD j []).length)) (.agg ((((rows.getD j []).drop off).take I.size).map .d)) [i] else match (rows.getD j [])[off]? with
      | some p => valR I.ok (.d p) [i]
      | none => badR
    | _ => badR
  | _ => badR
def ownsC (x : SV) : List Nat := (cellsS x).flatMap lentL
/-- What goes into a row is never written any more. -/
def datF (S : Nat → Option Blk) : SV → Option PV
  | .own i => match S i with
    | some (.row _ _ rows) => some (.list rows)
    | some (.ice rows) => some (.list rows)
    | _ => none
  | x => datS x
def frzL (S : Nat → Option Blk) : List SV → Sto
  | [] => []
  | .own i :: l => match S i with
    | some (.row _ _ rows) => (i, some (.ice rows)) :: frzL S l
    | _ => frzL S l
  | _ :: l => frzL S l
def storeE (I : TI) (S : Nat → Option Blk) (p y : SV) : OpR :=
  match p with
  | .ptr i off => match S i with
    | some (.box cs) => ⟨I.ok && (cellsS y).all oneB && (cellsS y).all (ownOK S) && decide ((cellsS y).length = I.size) && decide (off + (cellsS y).length ≤ cs.length), .junk, [(i, some (.box (splice cs off (cellsS y))))], [], i :: ownsC y⟩
    | _ => badR
  | .oelt i j off => match S i with
    | some (.row T sz rows) => match (cellsS y).mapM (datF S) with
      | some ps => ⟨I.ok && (cellsS y).all oneB && (cellsS y).all (ownOK S) && decide (ps.length = I.size) && decide (off + ps.length ≤ sz) && !(ownsC y).contains i, .junk, (i, some (.row T sz (rows.set j (splice (rows.getD j []) off ps)))) :: frzL S (cellsS y), [], i :: ownsC y⟩
      | none => badR
    | _ => badR
  | _ => badR
def faddrE (K : TK) (S : Nat → Option Blk) (p : SV) (f : Nat) : OpR :=
  match K with
  | .struct fs => match fs[f]? with
    | some (off, c) => match p with
      | .ptr i o => valR (c != 0) (.ptr i (o + off)) []
      | .elt cs => valR (c != 0) (.elt (cs.drop off)) []
      | .oelt i j o => match S i with
        | some (.row _ _ _) => valR (c != 0) (.oelt i j (o + off)) [i]
        | _ => badR
      | _ => badR
    | none => badR
  | _ => badR
def indexE (P : Program) (K : TK) (S : Nat → Option Blk) (x : SV) (y : SV) : OpR :=
  match K, y with
  | .slice e, .d (.int _ n) => match x with
    | .d (.list rows) => valR (decide (0 ≤ n) && decide (n < rows.length) && (P.cellsOf e != 0) && decide ((rows.getD n.toNat []).length = P.cellsOf e)) (.elt (rows.getD n.toNat [])) []
    | .own i => match S i with
      | some (.row _ _ rows) => valR (decide (0 ≤ n) && decide (n < rows.length) && (P.cellsOf e != 0) && decide ((rows.getD n.toNat []).length = P.cellsOf e)) (.oelt i n.toNat 0) [i]
      | some (.ice rows) => valR (decide (0 ≤ n) && decide (n < rows.length) && (P.cellsOf e != 0) && decide ((rows.getD n.toNat []).length = P.cellsOf e)) (.elt (rows.getD n.toNat [])) [i]
      | _ => badR
    | .sbox i m => valR (decide (0 ≤ n) && decide (n < m) && (P.cellsOf e != 0)) (.ptr i (n.toNat * P.cellsOf e)) []
    | _ => badR
  | .arr len e, .d (.int _ n) => match x with
    | .ptr i off => valR ((ti P e).ok && decide (0 ≤ n) && decide (n < len)) (.ptr i (off + n.toNat * (ti P e).size)) []
    | _ => badR
  | _, _ => badR
def lenE (K : TK) (S : Nat → Option Blk) (x : SV) : OpR :=
  match K with
  | .slice _ => match lenS S x with
    | some n => valR true (.d (.int .i64 n)) (lentL x)
    | none => badR
  | .str => match x with
    | .d (.str s) => valR true (.d (.int .i64 s.size)) []
    | _ => badR
  | _ => badR
def elTB (P : Program) (t : TypeId) : Option TypeId :=
  match (ti P t).kind with
  | .slice e => if (ti P e).ok && decide (0 < (ti P e).size) && decide ((ti P e).zero.length = (ti P e).size) then some e else none
  | _ => none
def appE (P : Program) (nx : Nat) (t : TypeId) (S : Nat → Option Blk) (x y : SV) : OpR :=
  match elTB P t with
  | some e => match rowsS S y with
    | some new => match x with
      | .nils => ⟨(new.all fun r => decide (r.length = (ti P e).size)) && decide (new.length * (ti P e).bytes ≤ 140737488355328) && decide (new.length ≤ maxLen), .own nx, [(nx, some (.row e (ti P e).size new))], [nx], lentL y⟩
      | .own i => match S i with
        | some (.row T sz rows) => ⟨decide (T = e) && decide (sz = (ti P e).size) && (new.all fun r => decide (r.length = (ti P e).size)) && decide ((rows.length + new.length) * (ti P e).bytes ≤ 140737488355328) && decide (rows.length + new.length ≤ maxLen), .own nx, [(nx, some (.row e (ti P e).size (rows ++ new))), (i, none)], [nx], i :: lentL y⟩
        | _ => badR
      | _ => badR
    | none => badR
  | none => badR
def mmE (mx : Bool) (x y : SV) : OpR :=
  match x, y with
  | .d (.int k m), .d (.int _ n) => valR true (.d (.int k (if mx = true then (if m < n then n else m) else (if n < m then n else m)))) []
  | _, _ => badR
def partsB (S : Nat → Option Blk) (V : Operand → SV) (parts : List (Nat × Operand)) : Bool := parts.all fun p => (cellsS (V p.2)).all oneB && (cellsS (V p.2)).all (ownOK S)
def partsO (V : Operand → SV) (parts : List (Nat × Operand)) : List Nat := parts.flatMap fun p => ownsC (V p.2)
def buildE (I : TI) (S : Nat → Option Blk) (V : Operand → SV) (parts : List (Nat × Operand)) : OpR :=
  match I.kind with
  | .struct fs => match fillS (fun i : Nat => fs[i]?) I.zero (parts.map fun p => (p.1, V p.2)) with
    | some cs => valR (I.ok && fs.all (fun f => f.2 != 0) && partsB S V parts) (.agg cs) (partsO V parts)
    | none => badR
  | _ => badR
def bslE (P : Program) (nx : Nat) (t : TypeId) (len : Nat) (S : Nat → Option Blk) (V : Operand → SV) (parts : List (Nat × Operand)) : OpR :=
  match elTB P t with
  | some e => match fillS (fun i => some (i * (ti P e).size, (ti P e).size)) (List.replicate len (ti P e).zero).flatten (parts.map fun p => (p.1, V p.2)) with
    | some cs => match cs.mapM (datF S) with
      | some ps => ⟨decide (len * (ti P e).size ≤ 2 ^ 24) && decide (len ≤ maxLen) && partsB S V parts && decide (ps.length = len * (ti P e).size) && (frzL S cs).all (fun p => (partsO V parts).contains p.1) && cs.all (fun c => match c with | .own i => (partsO V parts).contains i | _ => true), .own nx, (nx, some (.row e (ti P e).size (chop (ti P e).size len ps))) :: frzL S cs, [nx], partsO V parts⟩
      | none => badR
    | none => badR
  | none => badR
def _root_.List.isNils : List SV → Bool
  | [.nils] => true
  | _ => false
def makeE (P : Program) (nx : Nat) (t : TypeId) (x y : SV) : OpR :=
  match elTB P t with
  | some e => match x, y with
    | .d (.int _ l), .d (.int _ c) => if (ti P e).zero.isNils = true then ⟨decide ((ti P e).size = 1) && decide (0 ≤ l) && decide (l = c) && decide (c ≤ 9223372036854775807) && decide (c * ((ti P e).bytes : Int) ≤ 140737488355328), .sbox nx l.toNat, [(nx, some (.box (List.replicate l.toNat .nils)))], [nx], []⟩ else match (ti P e).zero.mapM datS with
      | some zr => ⟨decide (0 ≤ l) && decide (l ≤ c) && decide (c ≤ 9223372036854775807) && decide (c * ((ti P e).bytes : Int) ≤ 140737488355328), .own nx, [(nx, some (.row e (ti P e).size (List.replicate l.toNat zr)))], [nx], []⟩
      | none => badR
    | _, _ => badR
  | none => badR
def bndE (V : Operand → SV) (len : Int) : Option Operand → Option Int
  | none => some len
  | some x => match V x with
    | .d (.int _ n) => some n
    | _ => none
def sliceOf (P : Program) (e : TypeId) (V : Operand → SV) (lo hi mx : Option Operand) (rows : List (List PV)) (wr : Sto) (rd : List Nat) : OpR :=
  match bndE V 0 lo, bndE V rows.length hi, bndE V rows.length mx with
  | some l, some h, some m => ⟨(ti P e).ok && (rows.all fun r => decide (r.length = (ti P e).size)) && (mx.isNone || hi.isSome) && decide (0 ≤ l) && decide (l ≤ h) && decide (h ≤ m) && decide (m ≤ rows.length), .d (.list ((rows.take h.toNat).drop l.toNat)), wr, [], rd⟩
  | _, _, _ => badR
def sliceE (P : Program) (t : TypeId) (S : Nat → Option Blk) (V : Operand → SV) (x : SV) (lo hi mx : Option Operand) : OpR :=
  match (ti P t).kind with
  | .slice e => match x with
    | .d (.list rows) => sliceOf P e V lo hi mx rows [] []
    | .nils => sliceOf P e V lo hi mx [] [] []
    | .own i => match S i with
      | some (.row _ _ rows) => sliceOf P e V lo hi mx rows [(i, some (.ice rows))] [i]
      | some (.ice rows) => sliceOf P e V lo hi mx rows [] [i]
      | _ => badR
    | _ => badR
  | _ => badR
def fieldE (P : Program) (s : TypeId) (x : SV) (f : Nat) : OpR :=
  match x, P.underlying s with
  | .agg cs, some (.struct fields) => match fields[f]? with
    | some fd => valR ((ti P fd.type).ok && decide (fd.offset + (ti P fd.type).size ≤ cs.length) && ((ti P fd.type).kind.agg || decide (fd.offset < cs.length))) (if (ti P fd.type).kind.agg = true then .agg ((cs.drop fd.offset).take (ti P fd.type).size) else cs.getD fd.offset .junk) []
    | none => badR
  | _, _ => badR
def allocE (nx : Nat) (I : TI) : OpR := ⟨I.ok && I.zero.all oneB && I.zero.all (fun x => match x with | .own _ => false | _ => true), .ptr nx 0, [(nx, some (.box I.zero))], [nx], []⟩
def boxE (nx : Nat) (S : Nat → Option Blk) (x : SV) : OpR := ⟨(cellsS x).all oneB && (cellsS x).all (ownOK S), .ptr nx 0, [(nx, some (.box (cellsS x)))], [nx], ownsC x⟩
def pickE (c x y : SV) : OpR := match c with
  | .d (.bool b) => valR true (if b = true then x else y) []
  | _ => badR
def extrE (x : SV) (n : Nat) : OpR := match x with
  | .tup vs => valR (decide (n < vs.length)) (vs.getD n .junk) []
  | _ => badR
def ncE (x : SV) : OpR := match x with
  | .ptr i off => valR true (.ptr i off) []
  | _ => badR
def biE (P : Program) (nx : Nat) (S : Nat → Option Blk) (V : Operand → SV) (b : Builtin) (args : List Operand) (ts : List TypeId) : OpR :=
  match b, args, ts with
  | .len, [x], [t] => lenE (ti P t).kind S (V x)
  | .append, [x, y], [t, t'] => if t = t' then appE P nx t S (V x) (V y) else badR
  | .max, [x, y], _ => mmE true (V x) (V y)
  | .min, [x, y], _ => mmE false (V x) (V y)
  | _, _, _ => badR
def callE (P : Program) (nx : Nat) (S : Nat → Option Blk) (V : Operand → SV) (c : Callee) (args : List Operand) (ts : List TypeId) : OpR :=
  match c with
  | .builtin b => biE P nx S V b args ts
  | _ => badR
def istrE (K : TK) (x y : SV) : OpR := match K, x, y with
  | .str, .d (.str s), .d (.int _ n) => match s[n.toNat]? with
    | some b => valR (decide (0 ≤ n)) (.d (.int .u8 b.toNat)) []
    | none => badR
  | _, _, _ => badR
def opE (P : Program) (nx : Nat) (S : Nat → Option Blk) (V : Operand → SV) : Op → OpR
  | .move x => valR true (V x) []
  | .assign x => valR true (V x) []
  | .pick c x y => pickE (V c) (V x) (V y)
  | .unOp op _ x => unE op (V x)
  | .convert s t x => convE (ti P s).kind (ti P t).kind (V x)
  | .binOp op t x y _ => binE P op t (V x) (V y)
  | .load t x => loadE (ti P t) S (V x)
  | .store t x y => storeE (ti P t) S (V x) (V y)
  | .fieldAddr s x f => faddrE (ti P s).kind S (V x) f
  | .field s x f => fieldE P s (V x) f
  | .indexAddr t x y => indexE P (ti P t).kind S (V x) (V y)
  | .index t x y => istrE (ti P t).kind (V x) (V y)
  | .extract x n => extrE (V x) n
  | .nilCheck x => ncE (V x)
  | .alloc t => allocE nx (ti P t)
  | .box _ x => boxE nx S (V x)
  | .build t parts => buildE (ti P t) S V parts.toList
  | .buildSlice t len parts => bslE P nx t len S V parts.toList
  | .makeSlice t x y => makeE P nx t (V x) (V y)
  | .slice t x lo hi mx => sliceE P t S V (V x) lo hi mx
  | .call c => callE P nx S V c.callee c.args.toList c.argTypes.toList
  | _ => badR

/-! ### It is so -/
section
variable {P : Program} {o : Oper} {L : Nat → Prop} {E : Nat → SV} {σ σ' : Nat → Option Blk} {nx : Nat}
theorem bad_ok : badR.ok = true → False := by intro h; cases h
/-- .. in a state that is the same where it is read. -/
def Good (P : Program) (o : Oper) (L : Nat → Prop) (E : Nat → SV) (σ' : Nat → Option Blk) (r : OpR) : Prop := OpSem P o L E σ' r.x r.wr r.m

theorem unE_good {op : UnOp} {t : TypeId} {x : Operand} (ho : o.op = .unOp op t x) (hok : (unE op (evO E x)).ok = true) : Good P o L E σ' (unE op (evO E x)) := by
  unfold unE at *
  split at hok <;> try exact (bad_ok hok).elim
  · rename_i b he; simp only [he, Good, valR]; exact sem_not ho he
  · rename_i k n he; simp only [he, Good, valR]; exact sem_neg ho he
theorem convE_good {s t : TypeId} {x : Operand} (ho : o.op = .convert s t x) (hok : (convE (ti P s).kind (ti P t).kind (evO E x)).ok = true) : Good P o L E σ' (convE (ti P s).kind (ti P t).kind (evO E x)) := by
  unfold convE at *
  split at hok <;> try exact (bad_ok hok).elim
  rename_i k k' k'' n h1 h2 h3
  simp only [valR, decide_eq_true_eq] at hok
  subst hok
  simp only [h1, h2, h3, Good, valR]
  exact sem_convert ho h3 h1 h2
theorem intE_good {op : BinOp} {t u : TypeId} {x y : Operand} {k k' : IntKind} {m n : Int} (ho : o.op = .binOp op t x y u) (hx : evO E x = .d (.int k m)) (hy : evO E y = .d (.int k' n)) (hok : (intE op k k' m n).ok = true) : Good P o L E σ' (intE op k k' m n) := by
  unfold intE at *
  split at hok
  · simp only [valR, Bool.and_eq_true, decide_eq_true_eq] at hok
    obtain ⟨rfl, h⟩ := hok
    exact sem_quo ho hx hy h
  · simp only [valR, Bool.and_eq_true, decide_eq_true_eq] at hok
    obtain ⟨rfl, h⟩ := hok
    exact sem_rem ho hx hy h
  · simp only [valR, decide_eq_true_eq] at hok
    exact sem_shl ho hx hy hok
  · simp only [valR, decide_eq_true_eq] at hok
    exact sem_shr ho hx hy hok
  · rename_i n1 n2 n3 n4
    split at hok
    · rename_i r hr
      simp only [valR, decide_eq_true_eq] at hok
      subst hok
      simp only [hr, Good, valR]
      exact sem_bin ho hx hy hr
    · exact (bad_ok hok).elim
theorem cmpE_good {op : BinOp} {t u : TypeId} {x y : Operand} (ho : o.op = .binOp op t x y u) (hok : (cmpE P op t (evO E x) (evO E y)).ok = true) : Good P o L E σ' (cmpE P op t (evO E x) (evO E y)) := by
  unfold cmpE at *
  split at hok
  · have := sem_cmp (L := L) (σ := σ') ho (.inl rfl) hok
    simpa [Good, valR] using this
  · have := sem_cmp (L := L) (σ := σ') ho (.inr rfl) hok
    simpa [Good, valR] using this
  · exact (bad_ok hok).elim
theorem binE_good {op : BinOp} {t u : TypeId} {x y : Operand} (ho : o.op = .binOp op t x y u) (hok : (binE P op t (evO E x) (evO E y)).ok = true) : Good P o L E σ' (binE P op t (evO E x) (evO E y)) := by
  unfold binE at *
  split at hok
  · rename_i k m k' n h1 h2
    exact intE_good ho h1 h2 hok
  · exact cmpE_good ho hok
theorem rd_of {L : List Nat} {i : Nat} (h : ∀ j ∈ L, σ' j = σ j) (hi : i ∈ L) {b : Option Blk} (hb : σ i = b) : σ' i = b := (h i hi).trans hb
theorem loadE_good {t : TypeId} {x : Operand} (ho : o.op = .load t x) (hrd : ∀ i ∈ (loadE (ti P t) σ (evO E x)).rd, σ' i = σ i) (hok : (loadE (ti P t) σ (evO E x)).ok = true) : Good P o L E σ' (loadE (ti P t) σ (evO E x)) := by
  unfold loadE at *
  split at hok
  · rename_i i off he
    simp only [he] at hrd ⊢
    split at hok
    · rename_i cs hb
      simp only [hb] at hrd ⊢
      split at hok
      · rename_i hk
        simp only [hk, if_true, valR] at hrd ⊢
        simp only [valR, Bool.and_eq_true, decide_eq_true_eq] at hok
        exact sem_load_boxes ho he (rd_of hrd (by simp) hb) hok.1 hk hok.2
      · rename_i hk
        simp only [hk, if_false, valR, Bool.false_eq_true] at hrd ⊢
        simp only [valR, Bool.and_eq_true, decide_eq_true_eq] at hok
        exact sem_load_box ho he (rd_of hrd (by simp) hb) hok.1 (by simpa using hk) hok.2
    · exact (bad_ok hok).elim
  · rename_i cs he
    simp only [he] at hrd ⊢
    split at hok
    · rename_i hk
      simp only [hk, if_true, valR] at hrd ⊢
      simp only [valR, Bool.and_eq_true, decide_eq_true_eq] at hok
      exact sem_load_elts ho he hok.1 hk hok.2
    · rename_i hk
      simp only [hk, if_false, Bool.false_eq_true] at hrd ⊢
      split at hok
      · exact sem_load_elt ho he hok (by simpa using hk)
      · exact (bad_ok hok).elim
  · rename_i i j off he
    simp only [he] at hrd ⊢
    split at hok
    · rename_i T sz rows hb
      simp only [hb] at hrd ⊢
      split at hok
      · rename_i hk
        simp only [hk, if_true, valR] at hrd ⊢
        simp only [valR, Bool.and_eq_true, decide_eq_true_eq] at hok
        exact sem_load_oelts ho he (rd_of hrd (by simp) hb) hok.1 hk hok.2
      · rename_i hk
        simp only [hk, if_false, Bool.false_eq_true] at hrd ⊢
        split at hok
        · rename_i p hp
          simp only [hp, valR] at hrd ⊢
          exact sem_load_oelt ho he (rd_of hrd (by simp) hb) hok (by simpa using hk) hp
        · exact (bad_ok hok).elim
    · exact (bad_ok hok).elim
  · exact (bad_ok hok).elim
theorem ownOK_of {x : SV} (h : ∀ i ∈ ownsC x, σ' i = σ i) (hk : (cellsS x).all (ownOK σ) = true) : (cellsS x).all (ownOK σ') = true := by
  rw [List.all_eq_true] at hk ⊢
  intro c hc
  have := hk c hc
  cases c <;> simp only [ownOK] at this ⊢
  rename_i i
  rw [h i (by simp only [ownsC, List.mem_flatMap]; exact ⟨_, hc, by simp [lentL]⟩)]
  exact this
/-! What is frozen on its way into a row -/
theorem frzL_at (σ : Nat → Option Blk) : ∀ (l : List SV) (i : Nat), (updB σ (frzL σ l) i = σ i) ∨ ∃ T sz rows, σ i = some (.row T sz rows) ∧ updB σ (frzL σ l) i = some (.ice rows)
  | [], i => .inl rfl
  | x :: l, i => by
    have ih := frzL_at σ l i
    cases x with
    | own j =>
      simp only [frzL]
      split
      · rename_i T sz rows hb
        simp only [updB]
        split
        · rename_i e
          subst e
          exact .inr ⟨T, sz, rows, hb, rfl⟩
        · exact ih
      · exact ih
    | _ => exact ih
theorem frzL_in (σ : Nat → Option Blk) : ∀ (l : List SV) (i : Nat) {T : TypeId} {sz : Nat} {rows : List (List PV)}, .own i ∈ l → σ i = some (.row T sz rows) → updB σ (frzL σ l) i = some (.ice rows)
  | x :: l, i, T, sz, rows, h, hb => by
    rcases List.mem_cons.1 h with h | h
    · subst h
      simp only [frzL, hb, updB, if_true]
    · have ih := frzL_in σ l i h hb
      cases x with
      | own j =>
        simp only [frzL]
        split
        · rename_i T' sz' rows' hb'
          simp only [updB]
          split
          · rename_i e
            subst e
            rw [hb] at hb'
            injection hb' with hb'
            injection hb' with _ _ e3
            rw [e3]
          · exact ih
        · exact ih
      | _ => exact ih
theorem St.frozenL {w0 w : World} {X : Nat → Prop} {D0 : Base} {a : Act} (hs : St w0 X D0 L E σ a w) : ∀ l : List SV, St w0 X D0 L E (updB σ (frzL σ l)) a w
  | [] => hs
  | x :: l => by
    have ih := St.frozenL hs l
    cases x with
    | own i =>
      simp only [frzL]
      split
      · rename_i T sz rows hb
        have e : updB σ ((i, some (.ice rows)) :: frzL σ l) = setB (updB σ (frzL σ l)) i (some (.ice rows)) := by
          funext j
          simp [updB, setB]
        rw [e]
        rcases frzL_at σ l i with h1 | ⟨T', sz', rows', h1, h2⟩
        · exact ih.freeze (h1.trans hb)
        · rw [hb] at h1
          injection h1 with h1
          injection h1 with _ _ e3
          subst e3
          have : setB (updB σ (frzL σ l)) i (some (.ice rows)) = updB σ (frzL σ l) := by
            funext j
            simp only [setB]
            split
            · rename_i e; subst e; exact h2.symm
            · rfl
          rw [this]
          exact ih
      · exact ih
    | _ => exact ih
theorem updB_app (σ : Nat → Option Blk) : ∀ (a b : Sto), updB σ (a ++ b) = updB (updB σ b) a
  | [], b => rfl
  | (i, c) :: a, b => by
    funext j
    simp only [List.cons_append, updB, updB_app σ a b]
theorem OpSem.frozenL {x : SV} {wr : Sto} {m : List Nat} (l : List SV) (h : OpSem P o L E (updB σ (frzL σ l)) x wr m) : OpSem P o L E σ x (wr ++ frzL σ l) m := by
  intro w0 X D0 a w hs hd
  rw [updB_app]
  exact h w0 X D0 a w (hs.frozenL l) hd
theorem frzL_of : ∀ {l : List SV}, (∀ i, .own i ∈ l → σ' i = σ i) → frzL σ' l = frzL σ l
  | [], _ => rfl
  | x :: l, h => by
    have ih := frzL_of (l := l) fun i hi => h i (List.mem_cons_of_mem _ hi)
    cases x with
    | own i => simp only [frzL, h i (by simp), ih]
    | _ => exact ih
theorem datF_of {x : SV} (h : ∀ i, x = .own i → σ' i = σ i) : datF σ' x = datF σ x := by
  cases x with
  | own i => simp only [datF, h i rfl]
  | _ => rfl
theorem mapM_imp {α β : Type} {f g : α → Option β} : ∀ {l : List α} {r : List β}, (∀ x ∈ l, ∀ p, f x = some p → g x = some p) → l.mapM f = some r → l.mapM g = some r
  | [], r, _, h => by simpa using h
  | x :: l, r, hh, h => by
    simp only [List.mapM_cons, Option.bind_eq_bind, Option.pure_def] at h ⊢
    cases hf : f x with
    | none => simp [hf] at h
    | some p =>
      cases hr : l.mapM f with
      | none => simp [hf, hr] at h
      | some rest =>
        simp [hf, hr] at h
        rw [hh x (by simp) p hf, mapM_imp (fun y hy => hh y (by simp [hy])) hr]
        simp [h]
theorem datF_I {l : List SV} {x : SV} {p : PV} (hx : x ∈ l) (h : datF σ x = some p) : datI (updB σ (frzL σ l)) x = some p := by
  cases x with
  | own i =>
    simp only [datF] at h
    split at h
    · rename_i T sz rows hb
      simp only [datI, frzL_in σ l i hx hb]
      exact h
    · rename_i rows hb
      rcases frzL_at σ l i with h1 | ⟨T', sz', rows', h1, h2⟩
      · simp only [datI, h1, hb]
        exact h
      · rw [hb] at h1; cases h1
    · cases h
  | _ => exact h
theorem ownOK_frz {l : List SV} {x : SV} (h : ownOK σ x = true) : ownOK (updB σ (frzL σ l)) x = true := by
  cases x with
  | own i =>
    rcases frzL_at σ l i with h1 | ⟨T', sz', rows', h1, h2⟩
    · simpa only [ownOK, h1] using h
    · simp only [ownOK, h2]
  | _ => rfl
theorem storeE_good {t : TypeId} {x y : Operand} (ho : o.op = .store t x y) (hrd : ∀ i ∈ (storeE (ti P t) σ (evO E x) (evO E y)).rd, σ' i = σ i) (hok : (storeE (ti P t) σ (evO E x) (evO E y)).ok = true) : Good P o L E σ' (storeE (ti P t) σ (evO E x) (evO E y)) := by
  unfold storeE at *
  split at hok
  · rename_i i off he
    simp only [he] at hrd ⊢
    split at hok
    · rename_i cs hb
      simp only [hb] at hrd ⊢
      simp only [Bool.and_eq_true, decide_eq_true_eq] at hok
      obtain ⟨⟨⟨⟨h1, h2⟩, h3⟩, h4⟩, h5⟩ := hok
      exact sem_store_box ho he (rd_of hrd (by simp) hb) h1 h2 (ownOK_of (fun j hj => hrd j (by simp [hj])) h3) h4 h5
    · exact (bad_ok hok).elim
  · rename_i i j off he
    simp only [he] at hrd ⊢
    split at hok
    · rename_i T sz rows hb
      simp only [hb] at hrd ⊢
      split at hok
      · rename_i ps hp
        simp only [hp] at hrd ⊢
        simp only [Bool.and_eq_true, decide_eq_true_eq] at hok
        obtain ⟨⟨⟨⟨⟨h1, h2⟩, h3⟩, h4⟩, h5⟩, h6⟩ := hok
        have hin : ∀ q, .own q ∈ cellsS (evO E y) → q ∈ ownsC (evO E y) := by
          intro q hq
          simp only [ownsC, List.mem_flatMap]
          exact ⟨_, hq, by simp [lentL]⟩
        have hag : ∀ q, .own q ∈ cellsS (evO E y) → σ' q = σ q := fun q hq => hrd q (by simp [hin q hq])
        have hne : ¬ .own i ∈ cellsS (evO E y) := by
          intro hq
          have := hin i hq
          simp [this] at h6
        have hp' : (cellsS (evO E y)).mapM (datF σ') = some ps := mapM_imp (fun x hx p h => by rw [datF_of fun q e => hag q (e ▸ hx)]; exact h) hp
        have hb' : σ' i = some (.row T sz rows) := rd_of hrd (by simp) hb
        have hi : updB σ' (frzL σ' (cellsS (evO E y))) i = some (.row T sz rows) := by
          have key : ∀ l : List SV, ¬ .own i ∈ l → updB σ' (frzL σ' l) i = σ' i := by
            intro l
            induction l with
            | nil => intro _; rfl
            | cons x l ih =>
              intro h
              simp only [List.mem_cons, not_or] at h
              cases x with
              | own j =>
                simp only [frzL]
                split
                · simp only [updB]
                  rw [if_neg (fun e => h.1 (by rw [e])), ih h.2]
                · exact ih h.2
              | _ => exact ih h.2
          rw [key _ hne, hb']
        rw [← frzL_of hag]
        refine OpSem.frozenL (wr := [(i, some (.row T sz (rows.set j (splice (rows.getD j []) off ps))))]) (cellsS (evO E y)) ?_
        refine sem_store_row ho he hi h1 h2 ?_ (mapM_imp (fun x hx p h => datF_I hx h) hp') h4 h5
        rw [List.all_eq_true]
        intro x hx
        refine ownOK_frz ?_
        exact List.all_eq_true.1 (ownOK_of (fun j hj => hrd j (by simp [hj])) h3) x hx
      · exact (bad_ok hok).elim
    · exact (bad_ok hok).elim
  · exact (bad_ok hok).elim
theorem faddrE_good {s : TypeId} {x : Operand} {f : Nat} (ho : o.op = .fieldAddr s x f) (hrd : ∀ i ∈ (faddrE (ti P s).kind σ (evO E x) f).rd, σ' i = σ i) (hok : (faddrE (ti P s).kind σ (evO E x) f).ok = true) : Good P o L E σ' (faddrE (ti P s).kind σ (evO E x) f) := by
  unfold faddrE at *
  split at hok
  · rename_i fs hk
    simp only [hk] at hrd ⊢
    split at hok
    · rename_i off c hf
      simp only [hf] at hrd ⊢
      split at hok
      · rename_i i o' he
        simp only [he, valR] at hrd ⊢
        exact sem_field_ptr ho he hk hf (by simpa [valR] using hok)
      · rename_i cs he
        simp only [he, valR] at hrd ⊢
        exact sem_field_elt ho he hk hf (by simpa [valR] using hok)
      · rename_i i j o' he
        simp only [he] at hrd ⊢
        split at hok
        · rename_i T sz rows hb
          simp only [hb, valR] at hrd ⊢
          exact sem_field_oelt ho he ⟨T, sz, rows, rd_of hrd (by simp) hb⟩ hk hf (by simpa [valR] using hok)
        · exact (bad_ok hok).elim
      · exact (bad_ok hok).elim
    · exact (bad_ok hok).elim
  · exact (bad_ok hok).elim
theorem indexE_good {t : TypeId} {x y : Operand} (ho : o.op = .indexAddr t x y) (hrd : ∀ i ∈ (indexE P (ti P t).kind σ (evO E x) (evO E y)).rd, σ' i = σ i) (hok : (indexE P (ti P t).kind σ (evO E x) (evO E y)).ok = true) : Good P o L E σ' (indexE P (ti P t).kind σ (evO E x) (evO E y)) := by
  unfold indexE at *
  split at hok
  · rename_i e k n hk hy
    simp only [hk, hy] at hrd ⊢
    split at hok
    · rename_i rows hx
      simp only [hx, valR] at hrd ⊢
      simp only [valR, Bool.and_eq_true, decide_eq_true_eq, bne_iff_ne] at hok
      exact sem_index_d ho hx hy hk hok.1.1.1 hok.1.1.2 hok.2.symm hok.1.2
    · rename_i i hx
      simp only [hx] at hrd ⊢
      split at hok
      · rename_i T sz rows hb
        simp only [hb, valR] at hrd ⊢
        simp only [valR, Bool.and_eq_true, decide_eq_true_eq, bne_iff_ne] at hok
        exact sem_index_own ho hx (rd_of hrd (by simp) hb) hy hk hok.1.1.1 hok.1.1.2 hok.2.symm hok.1.2
      · rename_i rows hb
        simp only [hb, valR] at hrd ⊢
        simp only [valR, Bool.and_eq_true, decide_eq_true_eq, bne_iff_ne] at hok
        exact sem_index_ice ho hx (rd_of hrd (by simp) hb) hy hk hok.1.1.1 hok.1.1.2 hok.2.symm hok.1.2
      · exact (bad_ok hok).elim
    · rename_i i m hx
      simp only [hx, valR] at hrd ⊢
      simp only [valR, Bool.and_eq_true, decide_eq_true_eq, bne_iff_ne] at hok
      exact sem_index_sbox ho hx hy hk hok.1.1 hok.1.2 hok.2
    · exact (bad_ok hok).elim
  · rename_i len e k n hk hy
    try simp only [hk, hy] at hrd ⊢
    split at hok
    · rename_i i off hx
      try simp only [hx, valR] at hrd ⊢
      simp only [valR, Bool.and_eq_true, decide_eq_true_eq] at hok
      exact sem_index_arr ho hx hy hk hok.1.1 hok.1.2 hok.2
    · exact (bad_ok hok).elim
  · exact (bad_ok hok).elim
theorem lenS_of {x : SV} (h : ∀ i ∈ lentL x, σ' i = σ i) : lenS σ' x = lenS σ x := by
  cases x with
  | own i => simp only [lenS]; rw [h i (by simp [lentL])]
  | d p => cases p <;> rfl
  | _ => rfl
theorem rowsS_of {x : SV} (h : ∀ i ∈ lentL x, σ' i = σ i) : rowsS σ' x = rowsS σ x := by
  cases x with
  | own i => simp only [rowsS]; rw [h i (by simp [lentL])]
  | d p => cases p <;> rfl
  | _ => rfl
theorem lenE_good {c : Call} {t : TypeId} {x : Operand} (ho : o.op = .call c) (hc : c = { callee := .builtin .len, args := #[x], argTypes := #[t] }) (hrd : ∀ i ∈ (lenE (ti P t).kind σ (evO E x)).rd, σ' i = σ i) (hok : (lenE (ti P t).kind σ (evO E x)).ok = true) : Good P o L E σ' (lenE (ti P t).kind σ (evO E x)) := by
  subst hc
  unfold lenE at *
  split at hok
  · rename_i e hk
    simp only [hk] at hrd ⊢
    split at hok
    · rename_i n hn
      simp only [hn, valR] at hrd ⊢
      exact sem_len ho rfl hk (by rw [lenS_of hrd]; exact hn)
    · exact (bad_ok hok).elim
  · rename_i hk
    simp only [hk] at hrd ⊢
    split at hok
    · rename_i s hx
      simp only [hx, valR] at hrd ⊢
      exact sem_len_str ho rfl hk hx
    · exact (bad_ok hok).elim
  · exact (bad_ok hok).elim
theorem elTB_spec {t e : TypeId} (h : elTB P t = some e) : ElT P t e (ti P e).size := by
  unfold elTB at h
  split at h
  · rename_i e' hk
    split at h
    · rename_i hc
      injection h with h
      subst h
      simp only [Bool.and_eq_true, decide_eq_true_eq] at hc
      exact ⟨hk, hc.1.1, rfl, hc.1.2, hc.2⟩
    · cases h
  · cases h
theorem appE_good {c : Call} {t : TypeId} {x y : Operand} (ho : o.op = .call c) (hc : c = { callee := .builtin .append, args := #[x, y], argTypes := #[t, t] }) (hm : ¬ L nx) (hrd : ∀ i ∈ (appE P nx t σ (evO E x) (evO E y)).rd, σ' i = σ i) (hok : (appE P nx t σ (evO E x) (evO E y)).ok = true) : Good P o L E σ' (appE P nx t σ (evO E x) (evO E y)) := by
  subst hc
  unfold appE at *
  split at hok
  · rename_i e he
    simp only [he] at hrd ⊢
    split at hok
    · rename_i new hy
      simp only [hy] at hrd ⊢
      split at hok
      · rename_i hx
        simp only [hx] at hrd ⊢
        simp only [Bool.and_eq_true, decide_eq_true_eq, List.all_eq_true] at hok
        have := sem_append (L := L) (σ := σ') (E := E) (m := nx) (rows := []) (k := none) ho rfl (elTB_spec he) (.inl ⟨hx, rfl, rfl⟩) (by rw [rowsS_of hrd]; exact hy) (fun r hr => hok.1.1 r hr) (by simpa using hok.1.2) (by simpa using hok.2) hm
        simpa [Good, killS] using this
      · rename_i i hx
        simp only [hx] at hrd ⊢
        split at hok
        · rename_i T sz rows hb
          simp only [hb] at hrd ⊢
          simp only [Bool.and_eq_true, decide_eq_true_eq, List.all_eq_true] at hok
          obtain ⟨⟨⟨⟨rfl, rfl⟩, h3⟩, h4⟩, h5⟩ := hok
          exact sem_append (k := some i) ho rfl (elTB_spec he) (.inr ⟨i, hx, rd_of hrd (by simp) hb, rfl⟩) (by rw [rowsS_of fun j hj => hrd j (by simp [hj])]; exact hy) (fun r hr => h3 r hr) h4 h5 hm
        · exact (bad_ok hok).elim
      · exact (bad_ok hok).elim
    · exact (bad_ok hok).elim
  · exact (bad_ok hok).elim
theorem mmE_good {c : Call} {b : Builtin} {ts : Array TypeId} {x y : Operand} {mx : Bool} (ho : o.op = .call c) (hc : c = { callee := .builtin b, args := #[x, y], argTypes := ts }) (hb : b = if mx = true then .max else .min) (hok : (mmE mx (evO E x) (evO E y)).ok = true) : Good P o L E σ' (mmE mx (evO E x) (evO E y)) := by
  subst hc
  unfold mmE at *
  split at hok
  · rename_i k m k' n hx hy
    simp only [hx, hy, Good, valR]
    have := sem_minmax (P := P) (L := L) (σ := σ') ho hx hy (by cases mx <;> simp_all)
    cases mx <;> simp_all
  · exact (bad_ok hok).elim
theorem parts_of {parts : List (Nat × Operand)} (h : ∀ i ∈ partsO (evO E) parts, σ' i = σ i) (hk : partsB σ (evO E) parts = true) : partsB σ' (evO E) parts = true := by
  unfold partsB at *
  rw [List.all_eq_true] at hk ⊢
  intro p hp
  have := hk p hp
  simp only [Bool.and_eq_true] at this ⊢
  refine ⟨this.1, ownOK_of (fun i hi => h i ?_) this.2⟩
  simp only [partsO, List.mem_flatMap]
  exact ⟨p, hp, hi⟩
theorem buildE_good {t : TypeId} {parts : Array (Nat × Operand)} (ho : o.op = .build t parts) (hrd : ∀ i ∈ (buildE (ti P t) σ (evO E) parts.toList).rd, σ' i = σ i) (hok : (buildE (ti P t) σ (evO E) parts.toList).ok = true) : Good P o L E σ' (buildE (ti P t) σ (evO E) parts.toList) := by
  unfold buildE at *
  split at hok
  · rename_i fs hk
    simp only [hk] at hrd ⊢
    split at hok
    · rename_i cs hc
      simp only [hc, valR] at hrd ⊢
      simp only [valR, Bool.and_eq_true] at hok
      exact sem_build ho hok.1.1 hk hok.1.2 (parts_of hrd hok.2) hc
    · exact (bad_ok hok).elim
  · exact (bad_ok hok).elim
theorem bslE_good {t : TypeId} {len : Nat} {parts : Array (Nat × Operand)} (ho : o.op = .buildSlice t len parts) (hm : ¬ L nx) (hrd : ∀ i ∈ (bslE P nx t len σ (evO E) parts.toList).rd, σ' i = σ i) (hok : (bslE P nx t len σ (evO E) parts.toList).ok = true) : Good P o L E σ' (bslE P nx t len σ (evO E) parts.toList) := by
  unfold bslE at *
  split at hok
  · rename_i e he
    simp only [he] at hrd ⊢
    split at hok
    · rename_i cs hc
      simp only [hc] at hrd ⊢
      split at hok
      · rename_i ps hp
        simp only [hp] at hrd ⊢
        simp only [Bool.and_eq_true, decide_eq_true_eq] at hok
        obtain ⟨⟨⟨⟨⟨h1, h2⟩, h3⟩, h4⟩, _⟩, h6⟩ := hok
        have hag : ∀ q, .own q ∈ cs → σ' q = σ q := by
          intro q hq
          have := List.all_eq_true.1 h6 _ hq
          exact hrd q (by simpa using this)
        have hp' : cs.mapM (datF σ') = some ps := mapM_imp (fun x hx p h => by rw [datF_of fun q e => hag q (e ▸ hx)]; exact h) hp
        rw [← frzL_of hag]
        refine OpSem.frozenL (wr := [(nx, some (.row e (ti P e).size (chop (ti P e).size len ps)))]) cs ?_
        refine sem_buildSlice ho (elTB_spec he) h1 h2 ?_ hc (mapM_imp (fun x hx p h => datF_I hx h) hp') h4 hm
        have h3' := parts_of hrd h3
        unfold partsB at h3'
        rw [List.all_eq_true] at h3' ⊢
        intro p hp2
        have := h3' p hp2
        simp only [Bool.and_eq_true] at this ⊢
        refine ⟨this.1, ?_⟩
        rw [List.all_eq_true]
        intro x hx
        exact ownOK_frz (List.all_eq_true.1 this.2 x hx)
      · exact (bad_ok hok).elim
    · exact (bad_ok hok).elim
  · exact (bad_ok hok).elim
theorem makeE_good {t : TypeId} {x y : Operand} (ho : o.op = .makeSlice t x y) (hm : ¬ L nx) (hok : (makeE P nx t (evO E x) (evO E y)).ok = true) : Good P o L E σ' (makeE P nx t (evO E x) (evO E y)) := by
  unfold makeE at *
  split at hok
  · rename_i e he
    try simp only [he]
    split at hok
    · rename_i k l k' c hx hy
      try simp only [hx, hy]
      split at hok
      · rename_i hz
        rw [if_pos hz]
        simp only [Bool.and_eq_true, decide_eq_true_eq] at hok
        obtain ⟨⟨⟨⟨q1, q2⟩, q3⟩, q4⟩, q5⟩ := hok
        subst q3
        have hel := elTB_spec he
        rw [q1] at hel
        have hz' : (ti P e).zero = [.nils] := by
          generalize (ti P e).zero = zl at hz
          match zl, hz with
          | [.nils], _ => rfl
        exact sem_make_box ho hel hx hy hz' q2 q4 q5 hm
      rename_i hz0
      rw [if_neg hz0]
      split at hok
      · rename_i zr hz
        try simp only [hz]
        simp only [Bool.and_eq_true, decide_eq_true_eq] at hok
        exact sem_make ho (elTB_spec he) hx hy hz hok.1.1.1 hok.1.1.2 hok.1.2 hok.2 hm
      · exact (bad_ok hok).elim
    · exact (bad_ok hok).elim
  · exact (bad_ok hok).elim
theorem bnd_eq (len : Int) (b : Option Operand) : bndE (evO E) len b = bndS E len b := by cases b <;> rfl
theorem sliceOf_good {t e : TypeId} {x : Operand} {lo hi mx : Option Operand} {rows : List (List PV)} {rd : List Nat} (ho : o.op = .slice t x lo hi mx) (hk : (ti P t).kind = .slice e) (hx : listS σ' (evO E x) = some rows) (hok : (sliceOf P e (evO E) lo hi mx rows [] rd).ok = true) : Good P o L E σ' (sliceOf P e (evO E) lo hi mx rows [] rd) := by
  unfold sliceOf at *
  split at hok
  · rename_i l h m h1 h2 h3
    try simp only [h1, h2, h3]
    simp only [Bool.and_eq_true, decide_eq_true_eq, List.all_eq_true, Bool.or_eq_true] at hok
    obtain ⟨⟨⟨⟨⟨⟨k1, k2⟩, k3⟩, k4⟩, k5⟩, k6⟩, k7⟩ := hok
    rw [bnd_eq] at h1 h2 h3
    refine sem_slice ho hk k1 hx (fun r hr => k2 r hr) h1 h2 h3 (fun hne => ?_) k4 k5 k6 k7
    rcases k3 with k3 | k3
    · simp at k3; exact absurd k3 hne
    · intro h; rw [h] at k3; cases k3
  · exact (bad_ok hok).elim
theorem sliceE_good {t : TypeId} {x : Operand} {lo hi mx : Option Operand} (ho : o.op = .slice t x lo hi mx) (hrd : ∀ i ∈ (sliceE P t σ (evO E) (evO E x) lo hi mx).rd, σ' i = σ i) (hok : (sliceE P t σ (evO E) (evO E x) lo hi mx).ok = true) : Good P o L E σ' (sliceE P t σ (evO E) (evO E x) lo hi mx) := by
  have hsrd : ∀ {e : TypeId} {rows : List (List PV)} {wr : Sto} {rd : List Nat}, (sliceOf P e (evO E) lo hi mx rows wr rd).ok = true → (sliceOf P e (evO E) lo hi mx rows wr rd).rd = rd ∧ (sliceOf P e (evO E) lo hi mx rows wr rd).wr = wr ∧ (sliceOf P e (evO E) lo hi mx rows wr rd).m = [] ∧
      (sliceOf P e (evO E) lo hi mx rows [] rd).ok = true ∧ (sliceOf P e (evO E) lo hi mx rows [] rd).x = (sliceOf P e (evO E) lo hi mx rows wr rd).x := by
    intro e rows wr rd h
    unfold sliceOf at *
    split at h
    · rename_i l h' m h1 h2 h3
      exact ⟨rfl, rfl, rfl, h, rfl⟩
    · exact (bad_ok h).elim
  unfold sliceE at *
  split at hok
  · rename_i e hk
    simp only [hk] at hrd ⊢
    split at hok
    · rename_i rows hx
      simp only [hx] at hrd ⊢
      exact sliceOf_good ho hk (by rw [hx]; rfl) hok
    · rename_i hx
      simp only [hx] at hrd ⊢
      exact sliceOf_good ho hk (by rw [hx]; rfl) hok
    · rename_i i hx
      simp only [hx] at hrd ⊢
      split at hok
      · rename_i T sz rows hb
        simp only [hb] at hrd ⊢
        obtain ⟨e1, e2, e3, e4, e5⟩ := hsrd hok
        rw [e1] at hrd
        have hb' := rd_of hrd (by simp) hb
        have hg := sliceOf_good (L := L) (σ' := setB σ' i (some (.ice rows))) (rd := [i]) ho hk (by rw [hx]; simp [listS, setB_self]) e4
        obtain ⟨_, f2, f3, _, _⟩ := hsrd e4
        unfold Good at hg ⊢
        rw [f2, f3, e5] at hg
        rw [e2, e3]
        exact OpSem.frozen hb' hg
      · rename_i rows hb
        simp only [hb] at hrd ⊢
        obtain ⟨e1, _⟩ := hsrd hok
        rw [e1] at hrd
        exact sliceOf_good ho hk (by rw [hx]; simp [listS, rd_of hrd (by simp) hb]) hok
      · exact (bad_ok hok).elim
    · exact (bad_ok hok).elim
  · exact (bad_ok hok).elim
theorem fieldE_good {s : TypeId} {x : Operand} {f : Nat} (ho : o.op = .field s x f) (hok : (fieldE P s (evO E x) f).ok = true) : Good P o L E σ' (fieldE P s (evO E x) f) := by
  unfold fieldE at *
  split at hok
  · rename_i cs fields hx hu
    try simp only [hx, hu]
    split at hok
    · rename_i fd hf
      try simp only [hf]
      simp only [valR, Bool.and_eq_true, decide_eq_true_eq, Bool.or_eq_true] at hok
      exact sem_field ho hx hu hf rfl hok.1.1 hok.1.2 fun h => hok.2.resolve_left (by rw [h]; simp)
    · exact (bad_ok hok).elim
  · exact (bad_ok hok).elim
theorem extrE_good {x : Operand} {n : Nat} (ho : o.op = .extract x n) (hok : (extrE (evO E x) n).ok = true) : Good P o L E σ' (extrE (evO E x) n) := by
  unfold extrE at *
  split at hok
  · rename_i vs hx
    try simp only [hx]
    simp only [valR, decide_eq_true_eq] at hok
    exact sem_extract ho hx hok
  · exact (bad_ok hok).elim
theorem opE_good {ops : Array Oper} {E' : Nat → SV} (hm : ∀ i ∈ (opE P nx σ (evO E) o.op).m, ¬ L i) (hE : ∀ t ∈ o.looksAt ops, E' t = E t) (hrd : ∀ i ∈ (opE P nx σ (evO E) o.op).rd, σ' i = σ i) (hok : (opE P nx σ (evO E) o.op).ok = true) : Good P o L E' σ' (opE P nx σ (evO E) o.op) := by
  have hev : ∀ x ∈ o.op.operands, evO E x = evO E' x := by
    intro x hx
    cases x with
    | tmp t => exact (hE t (List.mem_append_left _ (List.mem_filterMap.2 ⟨.tmp t, by simpa using hx, rfl⟩))).symm
    | _ => rfl
  have hpar : ∀ parts : Array (Nat × Operand), (∀ p ∈ parts.toList, evO E p.2 = evO E' p.2) → (parts.toList.map fun p => (p.1, evO E p.2)) = (parts.toList.map fun p => (p.1, evO E' p.2)) ∧ partsO (evO E) parts.toList = partsO (evO E') parts.toList ∧ partsB σ (evO E) parts.toList = partsB σ (evO E') parts.toList := by
    intro parts h
    refine ⟨List.map_congr_left fun p hp => by rw [h p hp], ?_, ?_⟩
    · unfold partsO
      rw [List.flatMap_def, List.flatMap_def]
      congr 1
      exact List.map_congr_left fun p hp => by rw [h p hp]
    · unfold partsB
      rw [Bool.eq_iff_iff, List.all_eq_true, List.all_eq_true]
      constructor <;> intro h' p hp <;> have h2 := h' p hp
      · rw [← h p hp]; exact h2
      · rw [h p hp]; exact h2
  cases hop : o.op with
  | move x =>
    rw [hop] at hev hok hrd
    have e := hev x (by simp [Op.operands])
    simp only [opE, Good, valR, e]
    exact sem_move (.inl hop)
  | assign x =>
    rw [hop] at hev hok hrd
    have e := hev x (by simp [Op.operands])
    simp only [opE, Good, valR, e]
    exact sem_move (.inr hop)
  | pick c x y =>
    rw [hop] at hev hok hrd
    have e1 := hev c (by simp [Op.operands])
    have e2 := hev x (by simp [Op.operands])
    have e3 := hev y (by simp [Op.operands])
    simp only [opE] at hok ⊢
    unfold pickE at *
    split at hok
    · rename_i b hb
      simp only [hb, Good, valR]
      rw [e2, e3]
      exact sem_pick hop (e1 ▸ hb)
    · exact (bad_ok hok).elim
  | unOp op t x =>
    rw [hop] at hev hok hrd
    simp only [opE, hev x (by simp [Op.operands])] at hok ⊢
    exact unE_good hop hok
  | convert s t x =>
    rw [hop] at hev hok hrd
    simp only [opE, hev x (by simp [Op.operands])] at hok ⊢
    exact convE_good hop hok
  | binOp op t x y u =>
    rw [hop] at hev hok hrd
    simp only [opE, hev x (by simp [Op.operands]), hev y (by simp [Op.operands])] at hok ⊢
    exact binE_good hop hok
  | load t x =>
    rw [hop] at hev hok hrd
    simp only [opE, hev x (by simp [Op.operands])] at hok hrd ⊢
    exact loadE_good hop hrd hok
  | store t x y =>
    rw [hop] at hev hok hrd
    simp only [opE, hev x (by simp [Op.operands]), hev y (by simp [Op.operands])] at hok hrd ⊢
    exact storeE_good hop hrd hok
  | fieldAddr s x f =>
    rw [hop] at hev hok hrd
    simp only [opE, hev x (by simp [Op.operands])] at hok hrd ⊢
    exact faddrE_good hop hrd hok
  | field s x f =>
    rw [hop] at hev hok hrd
    simp only [opE, hev x (by simp [Op.operands])] at hok ⊢
    exact fieldE_good hop hok
  | indexAddr t x y =>
    rw [hop] at hev hok hrd
    simp only [opE, hev x (by simp [Op.operands]), hev y (by simp [Op.operands])] at hok hrd ⊢
    exact indexE_good hop hrd hok
  | index t x y =>
    rw [hop] at hev hok hrd
    simp only [opE, hev x (by simp [Op.operands]), hev y (by simp [Op.operands])] at hok ⊢
    unfold istrE at *
    split at hok
    · rename_i s k n hk hx hy
      split at hok
      · rename_i b hb
        simp only [valR, decide_eq_true_eq] at hok
        simp only [hk, hx, hy, hb, Good, valR]
        exact sem_index_str hop hx hy hk hok hb
      · exact (bad_ok hok).elim
    · exact (bad_ok hok).elim
  | extract x n =>
    rw [hop] at hev hok hrd
    simp only [opE, hev x (by simp [Op.operands])] at hok ⊢
    exact extrE_good hop hok
  | nilCheck x =>
    rw [hop] at hev hok hrd
    simp only [opE, hev x (by simp [Op.operands])] at hok ⊢
    unfold ncE at *
    split at hok
    · rename_i i off he
      try simp only [he]
      exact sem_nilCheck hop he
    · exact (bad_ok hok).elim
  | alloc t =>
    rw [hop] at hok hrd hm
    simp only [opE, allocE, Bool.and_eq_true] at hok hm ⊢
    exact sem_alloc hop hok.1.1 hok.1.2 hok.2 (hm nx (by simp))
  | box t x =>
    rw [hop] at hev hok hrd hm
    simp only [opE, boxE, hev x (by simp [Op.operands]), Bool.and_eq_true] at hok hrd hm ⊢
    exact sem_box hop hok.1 (ownOK_of hrd hok.2) (hm nx (by simp))
  | build t parts =>
    rw [hop] at hev hok hrd
    have hp : ∀ p ∈ parts.toList, evO E p.2 = evO E' p.2 := fun p hp => hev p.2 (by simp only [Op.operands, List.mem_toArray, List.mem_map]; exact ⟨p, hp, rfl⟩)
    obtain ⟨e1, e2, e3⟩ := hpar parts hp
    simp only [opE] at hok hrd ⊢
    have e4 : buildE (ti P t) σ (evO E) parts.toList = buildE (ti P t) σ (evO E') parts.toList := by simp only [buildE, e1, e2, e3]
    rw [e4] at hok hrd ⊢
    exact buildE_good hop hrd hok
  | buildSlice t len parts =>
    rw [hop] at hev hok hrd hm
    have hp : ∀ p ∈ parts.toList, evO E p.2 = evO E' p.2 := fun p hp => hev p.2 (by simp only [Op.operands, List.mem_toArray, List.mem_map]; exact ⟨p, hp, rfl⟩)
    obtain ⟨e1, e2, e3⟩ := hpar parts hp
    simp only [opE] at hok hrd hm ⊢
    have e4 : bslE P nx t len σ (evO E) parts.toList = bslE P nx t len σ (evO E') parts.toList := by simp only [bslE, e1, e2, e3]
    rw [e4] at hok hrd hm ⊢
    refine bslE_good hop (hm nx ?_) hrd hok
    clear hm hrd e4 e1 e2 e3
    revert hok
    unfold bslE
    intro hok
    split at hok
    · split at hok
      · split at hok
        · simp
        · exact (bad_ok hok).elim
      · exact (bad_ok hok).elim
    · exact (bad_ok hok).elim
  | makeSlice t x y =>
    rw [hop] at hev hok hrd hm
    simp only [opE, hev x (by simp [Op.operands]), hev y (by simp [Op.operands])] at hok hm ⊢
    refine makeE_good hop (hm nx ?_) hok
    clear hm hrd
    revert hok
    unfold makeE
    intro hok
    split at hok
    · split at hok
      · split at hok
        · rename_i hz
          rw [if_pos hz]
          exact List.mem_singleton.2 rfl
        · rename_i hz
          rw [if_neg hz]
          split at hok
          · exact List.mem_singleton.2 rfl
          · exact (bad_ok hok).elim
      · exact (bad_ok hok).elim
    · exact (bad_ok hok).elim
  | slice t x lo hi mx =>
    rw [hop] at hev hok hrd
    have e0 := hev x (by simp [Op.operands])
    have eb : ∀ (len : Int) (b : Option Operand), b.toList ⊆ lo.toList ++ hi.toList ++ mx.toList → bndE (evO E) len b = bndE (evO E') len b := by
      intro len b hb
      cases b with
      | none => rfl
      | some y =>
        have hy := hb (show y ∈ (some y).toList by simp)
        simp only [List.mem_append, Option.mem_toList] at hy
        have : y ∈ (Op.slice t x lo hi mx).operands := by
          simp only [Op.operands, Array.mem_append, Option.mem_toArray]
          rcases hy with (hy | hy) | hy
          · exact .inl (.inl (.inr hy))
          · exact .inl (.inr hy)
          · exact .inr hy
        simp only [bndE, hev y this]
    have e4 : sliceE P t σ (evO E) (evO E x) lo hi mx = sliceE P t σ (evO E') (evO E' x) lo hi mx := by
      simp only [sliceE, sliceOf, e0, eb _ lo (by simp), eb _ hi (by simp), eb _ mx (by simp)]
    simp only [opE, e4] at hok hrd ⊢
    exact sliceE_good hop hrd hok
  | call c =>
    rw [hop] at hev hok hrd hm
    obtain ⟨callee, args, argTypes⟩ := c
    simp only [opE] at hok hrd hm ⊢
    unfold callE at *
    split at hok
    · rename_i b
      simp only at hrd hm ⊢
      unfold biE at *
      split at hok
      · rename_i x t h1 h2
        have ea : args = #[x] := by rw [← Array.toArray_toList (xs := args), h1]
        have et : argTypes = #[t] := by rw [← Array.toArray_toList (xs := argTypes), h2]
        subst ea et
        simp only [hev x (by simp [Op.operands, Call.operands])] at hok hrd ⊢
        exact lenE_good hop rfl hrd hok
      · rename_i x y t t' h1 h2
        split at hok
        · rename_i htt
          subst htt
          have ea : args = #[x, y] := by rw [← Array.toArray_toList (xs := args), h1]
          have et : argTypes = #[t, t] := by rw [← Array.toArray_toList (xs := argTypes), h2]
          subst ea et
          simp only [hev x (by simp [Op.operands, Call.operands]), hev y (by simp [Op.operands, Call.operands]), if_true] at hok hrd hm ⊢
          refine appE_good hop rfl (hm nx ?_) hrd hok
          clear hm hrd
          revert hok
          unfold appE
          intro hok
          split at hok
          · split at hok
            · split at hok
              · simp
              · split at hok
                · simp
                · exact (bad_ok hok).elim
              · exact (bad_ok hok).elim
            · exact (bad_ok hok).elim
          · exact (bad_ok hok).elim
        · exact (bad_ok hok).elim
      · rename_i ts x y h1
        have ea : args = #[x, y] := by rw [← Array.toArray_toList (xs := args), h1]
        subst ea
        simp only [hev x (by simp [Op.operands, Call.operands]), hev y (by simp [Op.operands, Call.operands])] at hok hrd hm ⊢
        exact mmE_good hop rfl rfl hok
      · rename_i ts x y h1
        have ea : args = #[x, y] := by rw [← Array.toArray_toList (xs := args), h1]
        subst ea
        simp only [hev x (by simp [Op.operands, Call.operands]), hev y (by simp [Op.operands, Call.operands])] at hok hrd hm ⊢
        exact mmE_good hop rfl rfl hok
      · exact (bad_ok hok).elim
    · exact (bad_ok hok).elim
  | _ => rw [hop] at hok; exact (bad_ok hok).elim
end
end Go.Proofs.Ytikfkipalifohaa.A
