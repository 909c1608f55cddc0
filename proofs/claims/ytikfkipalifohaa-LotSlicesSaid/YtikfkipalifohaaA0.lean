/- The layer, part 0: abstract values, what they stand for in memory. -/
import Derived.WalkKit
import Derived.Below
import Derived.Laws.AppendOwn
import Derived.Laws.OwnMore
import Derived.Laws.MakeOwn
import Derived.Orders
namespace Go.Proofs.Ytikfkipalifohaa.A
open Go Go.RowKit

/-- Data: what is never written any more. A slice is the list of its elements, each by its cells. -/
inductive PV where
  | int (k : IntKind) (n : Int)
  | bool (b : Bool)
  | str (s : ByteArray)
  | fn (f : FuncId)
  | list (rows : List (List PV))

/-- What a slot holds. -/
inductive SV where
  | junk
  | d (p : PV)
  | nils
  | agg (cs : List SV)
  | tup (vs : List SV)
  | own (i : Nat)
  | ptr (i off : Nat)
  | elt (cs : List PV)
  | oelt (i j off : Nat)
  | view (i lo hi : Nat)
  | fresh (T : TypeId) (sz : Nat) (rows : List (List PV))
  | pbox (cs : List SV)
  | sbox (i n : Nat)
instance : Inhabited SV := ⟨.junk⟩

/-- A block of the call's own: a variable; a row; a row that is never written any more. -/
inductive Blk where
  | box (cs : List SV)
  | row (T : TypeId) (sz : Nat) (rows : List (List PV))
  | ice (rows : List (List PV))

/-! ### Data in memory -/
mutual
def Rep (w : World) (D : Nat → Prop) : PV → Value → Prop
  | .int k n, v => v = .int k n
  | .bool b, v => v = .bool b
  | .str s, v => v = .string s
  | .fn f, v => v = .func (.func f) #[] #[]
  | .list rows, v => (rows = [] ∧ ∃ a c, v = .slice a 0 c) ∨
      ∃ a cap sz, v = .slice (some a) rows.length cap ∧ rows.length ≤ cap ∧ cap ≤ maxLen ∧ a.spot = none ∧ D a.block ∧ RepRows w D a sz rows 0
def RepRows (w : World) (D : Nat → Prop) (a : Addr) (sz : Nat) : List (List PV) → Nat → Prop
  | [], _ => True
  | r :: rs, o => r.length = sz ∧ RepCells w D a r o ∧ RepRows w D a sz rs (o + sz)
def RepCells (w : World) (D : Nat → Prop) (a : Addr) : List PV → Nat → Prop
  | [], _ => True
  | p :: ps, o => (∃ v, w.cell? (a.add o) = some v ∧ Rep w D p v) ∧ RepCells w D a ps (o + 1)
end

theorem add_block (a : Addr) (n : Nat) : (a.add n).block = a.block := by unfold Addr.add; split <;> rfl
theorem add_spot {a : Addr} (h : a.spot = none) (n : Nat) : (a.add n).spot = none := by unfold Addr.add; split <;> simp [h]
theorem add_off {a : Addr} (n : Nat) : (a.add n).off = a.off + n := by unfold Addr.add; split <;> simp_all
theorem addr_add {a : Addr} (h : a.spot = none) (n : Nat) : a.add n = ⟨a.block, a.off + n, none⟩ := by
  cases a; unfold Addr.add; split <;> simp_all
theorem add_add {a : Addr} (h : a.spot = none) (n m : Nat) : (a.add n).add m = a.add (n + m) := by
  rw [addr_add h, addr_add (by rfl), addr_add h]; simp [Nat.add_assoc]

/-- The blocks of D are the same in w'. -/
def Same (D : Nat → Prop) (w w' : World) : Prop := ∀ k, D k → w'.heap[k]? = w.heap[k]?

mutual
theorem Rep.mono {w w' : World} {D D' : Nat → Prop} (hs : Same D w w') (hd : ∀ k, D k → D' k) : ∀ (p : PV) (v : Value), Rep w D p v → Rep w' D' p v
  | .int k n, v, h => by simpa [Rep] using h
  | .bool b, v, h => by simpa [Rep] using h
  | .str s, v, h => by simpa [Rep] using h
  | .fn f, v, h => by simpa [Rep] using h
  | .list rows, v, h => by
    simp only [Rep] at h ⊢
    rcases h with h | ⟨a, cap, sz, h1, h2, h3, h4, h5, h6⟩
    · exact .inl h
    · exact .inr ⟨a, cap, sz, h1, h2, h3, h4, hd _ h5, RepRows.mono hs hd a sz h5 rows 0 h6⟩
theorem RepRows.mono {w w' : World} {D D' : Nat → Prop} (hs : Same D w w') (hd : ∀ k, D k → D' k) (a : Addr) (sz : Nat) (ha : D a.block) : ∀ (rows : List (List PV)) (o : Nat), RepRows w D a sz rows o → RepRows w' D' a sz rows o
  | [], _, _ => by simp [RepRows]
  | r :: rs, o, h => by
    simp only [RepRows] at h ⊢
    exact ⟨h.1, RepCells.mono hs hd a ha r o h.2.1, RepRows.mono hs hd a sz ha rs (o + sz) h.2.2⟩
theorem RepCells.mono {w w' : World} {D D' : Nat → Prop} (hs : Same D w w') (hd : ∀ k, D k → D' k) (a : Addr) (ha : D a.block) : ∀ (ps : List PV) (o : Nat), RepCells w D a ps o → RepCells w' D' a ps o
  | [], _, _ => by simp [RepCells]
  | p :: ps, o, h => by
    simp only [RepCells] at h ⊢
    obtain ⟨⟨v, h1, h2⟩, h3⟩ := h
    exact ⟨⟨v, (World.cell?_of_block (w := w) (by rw [add_block]; exact hs _ ha)).trans h1, Rep.mono hs hd p v h2⟩, RepCells.mono hs hd a ha ps (o + 1) h3⟩
end

theorem RepRows.get {w : World} {D : Nat → Prop} {a : Addr} {sz : Nat} : ∀ {rows : List (List PV)} {o : Nat} (_ : RepRows w D a sz rows o) (j : Nat) (r : List PV), rows[j]? = some r → r.length = sz ∧ RepCells w D a r (o + j * sz)
  | [], _, _, j, r, hj => by simp at hj
  | r0 :: rs, o, h, 0, r, hj => by
    simp only [RepRows] at h
    simp at hj
    subst hj
    simpa using ⟨h.1, h.2.1⟩
  | r0 :: rs, o, h, j + 1, r, hj => by
    simp only [RepRows] at h
    have := RepRows.get h.2.2 j r (by simpa using hj)
    rwa [Nat.add_assoc, show sz + j * sz = (j + 1) * sz by rw [Nat.add_mul]; omega] at this
theorem RepCells.get {w : World} {D : Nat → Prop} {a : Addr} : ∀ {ps : List PV} {o : Nat} (_ : RepCells w D a ps o) (j : Nat) (p : PV), ps[j]? = some p → ∃ v, w.cell? (a.add (o + j)) = some v ∧ Rep w D p v
  | [], _, _, j, p, hj => by simp at hj
  | p0 :: ps, o, h, 0, p, hj => by
    simp only [RepCells] at h
    simp at hj
    subst hj
    simpa using h.1
  | p0 :: ps, o, h, j + 1, p, hj => by
    simp only [RepCells] at h
    have := RepCells.get h.2 j p (by simpa using hj)
    rwa [Nat.add_assoc, Nat.add_comm 1 j] at this
theorem RepCells.of_get {w : World} {D : Nat → Prop} {a : Addr} : ∀ {ps : List PV} {o : Nat}, (∀ (j : Nat) (p : PV), ps[j]? = some p → ∃ v, w.cell? (a.add (o + j)) = some v ∧ Rep w D p v) → RepCells w D a ps o
  | [], _, _ => by simp [RepCells]
  | p :: ps, o, h => by
    simp only [RepCells]
    refine ⟨h 0 p rfl, RepCells.of_get fun j q hj => ?_⟩
    have := h (j + 1) q (by simpa using hj)
    rwa [Nat.add_assoc, Nat.add_comm 1 j]
theorem RepRows.of_get {w : World} {D : Nat → Prop} {a : Addr} {sz : Nat} : ∀ {rows : List (List PV)} {o : Nat}, (∀ (j : Nat) (r : List PV), rows[j]? = some r → r.length = sz ∧ RepCells w D a r (o + j * sz)) → RepRows w D a sz rows o
  | [], _, _ => by simp [RepRows]
  | r :: rs, o, h => by
    simp only [RepRows]
    have h0 := h 0 r rfl
    refine ⟨h0.1, by simpa using h0.2, RepRows.of_get fun j q hj => ?_⟩
    have := h (j + 1) q (by simpa using hj)
    rwa [Nat.add_assoc, show sz + j * sz = (j + 1) * sz by rw [Nat.add_mul]; omega]

/-- A value of one cell. -/
theorem Rep.oneCell {w : World} {D : Nat → Prop} {p : PV} {v : Value} (h : Rep w D p v) : v.oneCell' = true := by
  cases p <;> simp only [Rep] at h
  case list rows => rcases h with ⟨_, a, c, rfl⟩ | ⟨a, cap, sz, rfl, _⟩ <;> rfl
  all_goals (subst h; rfl)

/-! ### The state -/
abbrev Env := List (Nat × SV)
abbrev Sto := List (Nat × Option Blk)
def lk : Env → Nat → SV
  | [], _ => .junk
  | (d, v) :: E, t => if d = t then v else lk E t
def lkB : Sto → Nat → Option Blk
  | [], _ => none
  | (d, b) :: S, i => if d = i then b else lkB S i

/-- A slice of the call's own. r: its block (none: nil). -/
def OwnOK (w : World) (D : Nat → Prop) (b : Option Blk) (r : Option Nat) (v : Value) : Prop :=
  (∀ T sz rows, b = some (.row T sz rows) → (r = none ∧ v = .slice none 0 0) ∨
    ∃ g cap arr, r = some g ∧ v = .slice (some ⟨g, 0, none⟩) rows.length cap ∧ w.heap[g]? = some (.cells arr T (0, 0)) ∧ arr.size = cap * sz ∧ 0 < sz ∧ cap ≤ maxLen ∧ (∀ r ∈ rows, r.length = sz)) ∧
  ∀ rows, b = some (.ice rows) → Rep w D (.list rows) v
def EltOK (b : Option Blk) (g j off : Nat) (v : Value) : Prop :=
  ∀ T sz rows, b = some (.row T sz rows) → (∀ r ∈ rows, r.length = sz) ∧ j < rows.length ∧ v = .pointer (some ⟨g, j * sz + off, none⟩)

mutual
/-- A slot's value. -/
def SRep (w : World) (D : Nat → Prop) (ρ : Nat → Option (Option Nat)) (σ : Nat → Option Blk) : SV → Value → Prop
  | .junk, _ => True
  | .d p, v => Rep w D p v
  | .nils, v => v = .slice none 0 0
  | .agg cs, v => ∃ arr : Array Value, v = .agg arr ∧ SReps w D ρ σ cs arr.toList
  | .tup vs, v => ∃ arr : Array Value, v = .tuple arr ∧ SReps w D ρ σ vs arr.toList
  | .own i, v => ∃ r, ρ i = some r ∧ OwnOK w D (σ i) r v
  | .ptr i off, v => ∃ g, ρ i = some (some g) ∧ v = .pointer (some ⟨g, off, none⟩)
  | .elt cs, v => ∃ a : Addr, v = .pointer (some a) ∧ a.spot = none ∧ D a.block ∧ RepCells w D a cs 0
  | .oelt i j off, v => ∃ g, ρ i = some (some g) ∧ EltOK (σ i) g j off v
  | .view i lo hi, v => ∃ g q c p, ρ i = some (some g) ∧ lo < hi ∧ v = .slice (some ⟨g, q, none⟩) (hi - lo) c ∧ EltOK (σ i) g lo 0 (.pointer (some ⟨g, q, none⟩)) ∧ EltOK (σ i) g (hi - 1) 0 p
  | .fresh _ _ _, _ => False
  | .pbox _, _ => False
  | .sbox i n, v => ∃ g, ρ i = some (some g) ∧ n ≤ maxLen ∧ v = .slice (some ⟨g, 0, none⟩) n n
def SReps (w : World) (D : Nat → Prop) (ρ : Nat → Option (Option Nat)) (σ : Nat → Option Blk) : List SV → List Value → Prop
  | [], vs => vs = []
  | c :: cs, vs => ∃ v vs', vs = v :: vs' ∧ SRep w D ρ σ c v ∧ SReps w D ρ σ cs vs'
end

/-- The cells of a row of the call's own. -/
def RowIn (w : World) (D : Nat → Prop) (g : Nat) (T : TypeId) (sz : Nat) (rows : List (List PV)) : Prop :=
  ∃ arr cap, w.heap[g]? = some (.cells arr T (0, 0)) ∧ arr.size = cap * sz ∧ 0 < sz ∧ rows.length ≤ cap ∧ cap ≤ maxLen ∧ RepRows w D ⟨g, 0, none⟩ sz rows 0

/-- A block of the call's own, where it lies. -/
def BRep (w : World) (D : Nat → Prop) (ρ : Nat → Option (Option Nat)) (σ : Nat → Option Blk) (i : Nat) : Blk → Prop
  | .box cs => ∃ g arr T, ρ i = some (some g) ∧ w.heap[g]? = some (.cells arr T (0, 0)) ∧ SReps w D ρ σ cs arr.toList ∧ ∀ u ∈ arr, u.oneCell' = true
  | .row T sz rows => ∃ r, ρ i = some r ∧ match r with
    | none => rows = []
    | some g => RowIn w D g T sz rows
  | .ice _ => ∃ r, ρ i = some r

/-- May this block be written: it is new, or was handed over. -/
def Mine (w0 : World) (X : Nat → Prop) (k : Nat) : Prop := w0.heap.size ≤ k ∨ X k

def Blk.live : Blk → Bool
  | .ice _ => false
  | _ => true

structure Kept (w0 w : World) (X : Nat → Prop) : Prop where
  os : w.os = w0.os
  tape : w.tape = w0.tape
  output : w.output = w0.output
  size : w0.heap.size ≤ w.heap.size
  block : ∀ k, k < w0.heap.size → ¬ X k → w.heap[k]? = w0.heap[k]?

/-- What stays: data from the begin, and the addresses of variables that are another's. -/
structure Base where
  d : Nat → Prop
  f : Nat → Option (Option Nat)

/-- The machine's state is as told. L: the numbers of blocks that are given away. -/
structure StD (w0 : World) (X : Nat → Prop) (D0 : Base) (L D : Nat → Prop) (ρ : Nat → Option (Option Nat)) (E : Nat → SV) (σ : Nat → Option Blk) (a : Act) (w : World) : Prop where
  slots : ∀ t, SRep w D ρ σ (E t) (a.tmps.getD t undef)
  ndef : a.defers = []
  kept : Kept w0 w X
  dlt : ∀ k, D k → k < w.heap.size
  dold : ∀ k, D0.d k → D k
  dnew : ∀ k, D k → D0.d k ∨ Mine w0 X k
  fix : ∀ i r, D0.f i = some r → ρ i = some r
  given : ∀ i r, ρ i = some r → L i
  blk : ∀ i b, σ i = some b → BRep w D ρ σ i b
  apart : ∀ i b g, σ i = some b → b.live = true → ρ i = some (some g) → ¬ D g ∧ Mine w0 X g ∧ g < w.heap.size
  inj : ∀ i j b c g, σ i = some b → σ j = some c → b.live = true → c.live = true → ρ i = some (some g) → ρ j = some (some g) → i = j

def St (w0 : World) (X : Nat → Prop) (D0 : Base) (L : Nat → Prop) (E : Nat → SV) (σ : Nat → Option Blk) (a : Act) (w : World) : Prop := ∃ D ρ, StD w0 X D0 L D ρ E σ a w

/-! ### What stays true -/
/-- From one state of memory to another: what slots hold stays true. -/
structure Mv (w w' : World) (D D' : Nat → Prop) (ρ ρ' : Nat → Option (Option Nat)) (σ σ' : Nat → Option Blk) : Prop where
  same : Same D w w'
  dd : ∀ k, D k → D' k
  rr : ∀ i r, ρ i = some r → ρ' i = some r
  own : ∀ i r v, ρ i = some r → OwnOK w D (σ i) r v → OwnOK w' D' (σ' i) r v
  elt : ∀ i g j off v, ρ i = some (some g) → EltOK (σ i) g j off v → EltOK (σ' i) g j off v

mutual
theorem SRep.mv {w w' : World} {D D' : Nat → Prop} {ρ ρ' : Nat → Option (Option Nat)} {σ σ' : Nat → Option Blk} (h : Mv w w' D D' ρ ρ' σ σ') : ∀ (x : SV) (v : Value), SRep w D ρ σ x v → SRep w' D' ρ' σ' x v
  | .junk, _, _ => by simp [SRep]
  | .d p, v, hx => by simp only [SRep] at hx ⊢; exact Rep.mono h.same h.dd p v hx
  | .nils, v, hx => by simpa [SRep] using hx
  | .agg cs, v, hx => by
    simp only [SRep] at hx ⊢
    obtain ⟨arr, h1, h2⟩ := hx
    exact ⟨arr, h1, SReps.mv h cs _ h2⟩
  | .tup cs, v, hx => by
    simp only [SRep] at hx ⊢
    obtain ⟨arr, h1, h2⟩ := hx
    exact ⟨arr, h1, SReps.mv h cs _ h2⟩
  | .own i, v, hx => by
    simp only [SRep] at hx ⊢
    obtain ⟨r, h1, h2⟩ := hx
    exact ⟨r, h.rr i r h1, h.own i r v h1 h2⟩
  | .ptr i off, v, hx => by
    simp only [SRep] at hx ⊢
    obtain ⟨g, h1, h2⟩ := hx
    exact ⟨g, h.rr i _ h1, h2⟩
  | .elt cs, v, hx => by
    simp only [SRep] at hx ⊢
    obtain ⟨a, h1, h2, h3, h4⟩ := hx
    exact ⟨a, h1, h2, h.dd _ h3, RepCells.mono h.same h.dd a h3 cs 0 h4⟩
  | .oelt i j off, v, hx => by
    simp only [SRep] at hx ⊢
    obtain ⟨g, h1, h2⟩ := hx
    exact ⟨g, h.rr i _ h1, h.elt i g j off v h1 h2⟩
  | .view i lo hi, v, hx => by
    simp only [SRep] at hx ⊢
    obtain ⟨g, q, c, p, h1, h2, h3, h4, h5⟩ := hx
    exact ⟨g, q, c, p, h.rr i _ h1, h2, h3, h.elt i g lo 0 _ h1 h4, h.elt i g (hi - 1) 0 _ h1 h5⟩
  | .fresh _ _ _, v, hx => by simp [SRep] at hx
  | .pbox _, v, hx => by simp [SRep] at hx
  | .sbox i n, v, hx => by
    simp only [SRep] at hx ⊢
    obtain ⟨g, h1, h2⟩ := hx
    exact ⟨g, h.rr i _ h1, h2⟩
theorem SReps.mv {w w' : World} {D D' : Nat → Prop} {ρ ρ' : Nat → Option (Option Nat)} {σ σ' : Nat → Option Blk} (h : Mv w w' D D' ρ ρ' σ σ') : ∀ (xs : List SV) (vs : List Value), SReps w D ρ σ xs vs → SReps w' D' ρ' σ' xs vs
  | [], vs, hx => by simpa [SReps] using hx
  | c :: cs, vs, hx => by
    simp only [SReps] at hx ⊢
    obtain ⟨v, vs', h1, h2, h3⟩ := hx
    exact ⟨v, vs', h1, SRep.mv h c v h2, SReps.mv h cs vs' h3⟩
end

theorem SReps.length {w : World} {D : Nat → Prop} {ρ : Nat → Option (Option Nat)} {σ : Nat → Option Blk} : ∀ {xs : List SV} {vs : List Value}, SReps w D ρ σ xs vs → vs.length = xs.length
  | [], vs, h => by simp only [SReps] at h; simp [h]
  | c :: cs, vs, h => by
    simp only [SReps] at h
    obtain ⟨v, vs', rfl, _, h3⟩ := h
    simp [SReps.length h3]
theorem SReps.get {w : World} {D : Nat → Prop} {ρ : Nat → Option (Option Nat)} {σ : Nat → Option Blk} : ∀ {xs : List SV} {vs : List Value} (_ : SReps w D ρ σ xs vs) (j : Nat) (x : SV), xs[j]? = some x → ∃ v, vs[j]? = some v ∧ SRep w D ρ σ x v
  | [], vs, _, j, x, hj => by simp at hj
  | c :: cs, vs, h, 0, x, hj => by
    simp only [SReps] at h
    obtain ⟨v, vs', rfl, h2, _⟩ := h
    simp at hj
    subst hj
    exact ⟨v, rfl, h2⟩
  | c :: cs, vs, h, j + 1, x, hj => by
    simp only [SReps] at h
    obtain ⟨v, vs', rfl, _, h3⟩ := h
    obtain ⟨u, hu, hr⟩ := SReps.get h3 j x (by simpa using hj)
    exact ⟨u, by simpa using hu, hr⟩
theorem SReps.of_get {w : World} {D : Nat → Prop} {ρ : Nat → Option (Option Nat)} {σ : Nat → Option Blk} : ∀ {xs : List SV} {vs : List Value}, vs.length = xs.length → (∀ (j : Nat) (x : SV) (v : Value), xs[j]? = some x → vs[j]? = some v → SRep w D ρ σ x v) → SReps w D ρ σ xs vs
  | [], vs, h, _ => by simp only [SReps]; exact List.eq_nil_of_length_eq_zero (by simpa using h)
  | c :: cs, [], h, _ => by simp at h
  | c :: cs, v :: vs, h, hh => by
    simp only [SReps]
    exact ⟨v, vs, rfl, hh 0 c v rfl rfl, SReps.of_get (by simpa using h) fun j x u h1 h2 => hh (j + 1) x u (by simpa using h1) (by simpa using h2)⟩

/-- A slot is given a value. -/
def upd (E : Nat → SV) (d : Option Nat) (v : SV) : Nat → SV := fun t => if d = some t then v else E t
/-- The slots behind an operation. -/
theorem StD.put {w0 w : World} {X : Nat → Prop} {D0 : Base} {L D : Nat → Prop} {ρ : Nat → Option (Option Nat)} {E : Nat → SV} {σ : Nat → Option Blk} {a : Act} (h : StD w0 X D0 L D ρ E σ a w) (d : Option Nat) (hd : ∀ t, d = some t → t < a.tmps.size) {x : SV} {v : Value} (hx : SRep w D ρ σ x v) :
    StD w0 X D0 L D ρ (upd E d x) σ (a.put d v) w := by
  refine ⟨fun t => ?_, ?_, h.kept, h.dlt, h.dold, h.dnew, h.fix, h.given, h.blk, h.apart, h.inj⟩
  · cases d with
    | none => simpa [upd, Act.put] using h.slots t
    | some d =>
      by_cases e : d = t
      · subst e
        have := hd d rfl
        simp only [upd, Act.put, if_pos, Array.getD_eq_getD_getElem?, Array.getElem?_setIfInBounds, this, if_true]
        simpa using hx
      · have := h.slots t
        simp only [upd, Act.put, Option.some.injEq, if_neg e, Array.getD_eq_getD_getElem?, Array.getElem?_setIfInBounds] at this ⊢
        exact this
  · cases d <;> simpa [Act.put] using h.ndef
theorem put_size (a : Act) (d : Option Nat) (v : Value) : (a.put d v).tmps.size = a.tmps.size := by cases d <;> simp [Act.put]
end Go.Proofs.Ytikfkipalifohaa.A
