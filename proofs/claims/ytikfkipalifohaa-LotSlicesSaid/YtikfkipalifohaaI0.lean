/- slices.Insert at one int: the shelf's theorems as a contract. -/
import Derived.Test.YtikfkipalifohaaA20
import Derived.Test.YtikfkipalifohaaB0
import Derived.Shelf.Spec.SlicesInsert
import Derived.Shelf.Spec.SlicesInsertGrow
namespace Go.Proofs.Ytikfkipalifohaa
open Go Go.Proofs.Ytikfkipalifohaa.A Go.RowKit
set_option maxRecDepth 100000
set_option maxHeartbeats 4000000
set_option linter.unusedSimpArgs false
set_option linter.unusedVariables false

theorem heap_setCells (b : Nat) : ∀ (vs : List Value) (o : Nat) (w : World) (arr : Array Value) (T : TypeId) (fr : Nat × Nat), w.heap[b]? = some (.cells arr T fr) → o + vs.length ≤ arr.size →
    ∃ arr', (w.setCells b o vs).heap[b]? = some (.cells arr' T fr) ∧ arr'.toList = splice arr.toList o vs
  | [], o, w, arr, T, fr, h, hl => ⟨arr, h, by simp [splice]⟩
  | v :: vs, o, w, arr, T, fr, h, hl => by
    have hb : b < w.heap.size := heap_lt h
    have h1 : (w.setCell ⟨b, o, none⟩ v).heap[b]? = some (.cells (arr.setIfInBounds o v) T fr) := by
      have hv : w.heap[b] = .cells arr T fr := (Array.getElem?_eq_some_iff.1 h).2
      unfold World.setCell
      rw [Array.getElem?_eq_getElem (by simpa using hb), Array.getElem_modify]
      simp [hv]
    obtain ⟨arr', h2, h3⟩ := heap_setCells b vs (o + 1) _ _ T fr h1 (by simp at hl ⊢; omega)
    refine ⟨arr', h2, ?_⟩
    rw [h3]
    simp only [List.length_cons] at hl
    apply List.ext_getElem?
    intro j
    rw [splice_get (by simp; omega), splice_get (by simp; omega)]
    simp only [Array.toList_setIfInBounds, List.getElem?_set, List.length_cons, Array.length_toList]
    by_cases c1 : j < o
    · rw [if_pos (by omega), if_pos c1, if_neg (by omega)]
    · rw [if_neg c1]
      by_cases c2 : j = o
      · subst c2
        rw [if_pos (by omega), if_pos rfl, if_pos (by omega), if_pos (by omega), Nat.sub_self]
        rfl
      · by_cases c3 : j < o + 1 + vs.length
        · rw [if_neg (by omega), if_pos c3, if_pos (by omega), show j - o = (j - (o + 1)) + 1 by omega, List.getElem?_cons_succ]
        · rw [if_neg (by omega), if_neg c3, if_neg (by omega), if_neg (by omega)]
theorem size_setCells' (b : Nat) : ∀ (vs : List Value) (o : Nat) (w : World), (w.setCells b o vs).heap.size = w.heap.size
  | [], o, w => rfl
  | v :: vs, o, w => by
    show ((w.setCell ⟨b, o, none⟩ v).setCells b (o + 1) vs).heap.size = _
    rw [size_setCells' b vs (o + 1), World.size_setCell]
theorem Kept.setCells {w0 : World} {X : Nat → Prop} (b : Nat) (hm : Mine w0 X b) : ∀ (vs : List Value) (o : Nat) (w : World), Kept w0 w X → Kept w0 (w.setCells b o vs) X
  | [], o, w, h => h
  | v :: vs, o, w, h => by
    refine Kept.setCells b hm vs (o + 1) (w.setCell ⟨b, o, none⟩ v) ⟨h.os, h.tape, h.output, by rw [World.size_setCell]; exact h.size, fun k hk hx => ?_⟩
    rw [Below.heap_setCell _ _ _ _ (fun e => ?_)]
    · exact h.block k hk hx
    · simp only at e
      subst e
      rcases hm with h1 | h1
      · omega
      · exact hx h1
theorem Kept.drew {w0 w : World} {X : Nat → Prop} (h : Kept w0 w X) : Kept w0 w.drew X := ⟨h.os, h.tape, h.output, h.size, h.block⟩
theorem other_setCells (b k : Nat) (hk : k ≠ b) : ∀ (vs : List Value) (o : Nat) (w : World), (w.setCells b o vs).heap[k]? = w.heap[k]?
  | [], o, w => rfl
  | v :: vs, o, w => by
    show ((w.setCell ⟨b, o, none⟩ v).setCells b (o + 1) vs).heap[k]? = _
    rw [other_setCells b k hk vs (o + 1), Below.heap_setCell _ _ _ _ hk]
/-- A function with a body is entered. -/
theorem enter_run {P : Program} {f : FuncId} {fn : Func} {c : Code} (hf : P.funcs[f]? = some fn) (hb : fn.body = some c) (hname : (fn.name == "runtime.NumGoroutine") = false) (vs : Array Value) (w : World) : (callFunc f vs).run P w = .ok (.enter f vs) w := by
  have hname' : ¬ fn.name = "runtime.NumGoroutine" := by simpa using hname
  simp [callFunc, run_program, hf, hname', hb]
theorem getv {w : World} {g : Nat} {vs : List Value} (h : ∀ j v, vs[j]? = some v → w.cell? ((⟨g, 0, none⟩ : Addr).add (0 + j)) = some v) (j : Nat) (v : Value) (hj : vs[j]? = some v) : w.cell? ⟨g, 0 + j, none⟩ = some v := by
  have := h j v hj
  rw [addr_add (by rfl)] at this
  simpa using this

def insRen : Go.Shelf.Ren := ⟨fun | 21 => 82 | 27 => 86 | 28 => 87 | 35 => 89 | 39 => 90 | x => x, fun | 0 => 0 | 3 => 3 | 4 => 4 | 22 => 137 | x => x, fun x => x⟩
theorem insL : Lays2.n21 Go.Proofs.Try.prog insRen := by
  constructor
  all_goals first | kernel_rfl | skip
  all_goals (intro w; first | rfl | kernel_rfl)
theorem insert_ok (T : TypeId) (hT : T = 3) (rows : List (List PV)) (r : List PV) (i : Nat) (hi : i ≤ rows.length) (hbig : rows.length < 1000000000000) :
    FnOK Go.Proofs.Try.prog 82 [.fresh T 1 rows, .d (.int .i64 i), .fresh T 1 [r]] (.own 0) [(0, some (.row T 1 (rows.take i ++ [r] ++ rows.drop i)))] := by
  subst hT
  intro w d0 X ρ0 vs hvs hs
  rw [enter_run (f := 82) (fn := Go.Proofs.Try.f82) rfl rfl (by kernel_rfl)]
  simp only [UponCall]
  obtain ⟨hrl, c0⟩ := fresh_in hs (j := 0) rfl
  obtain ⟨hr1, c2⟩ := fresh_in hs (j := 2) rfl
  have h1 := hs.slots 1
  have e1 : E0 [SV.fresh 3 1 rows, .d (.int .i64 i), .fresh 3 1 [r]] 1 = .d (.int .i64 i) := rfl
  rw [e1] at h1
  simp only [SRep, Rep] at h1
  have hpb : ∀ (j : Nat) cs, [SV.fresh 3 1 rows, .d (.int .i64 i), .fresh 3 1 [r]][j]? ≠ some (.pbox cs) := by
    intro j cs h
    match j with
    | 0 => simp at h
    | 1 => simp at h
    | 2 => simp at h
    | j + 3 => simp at h
  rcases c2 with ⟨hbad, _⟩ | ⟨g2, cap2, arr2, hρ2, hv2, hh2, ha2, _, hl2, hc2, hR2, hnd2, hM2, hlt2⟩
  · cases hbad
  obtain ⟨us, hU, hUc⟩ := RowsV.of_rows hR2
  have hul : us.length = 1 := by rw [hU.length]; simp
  have hUc' := getv hUc
  have hvs3 : vs.size = 3 := hvs
  have hne : ∀ g, ρ0 0 = some (some g) → g2 ≠ g := by
    intro g hg e
    subst e
    have := hs.inj 0 2 (.row 3 1 rows) (.row 3 1 [r]) g2 rfl rfl rfl rfl hg hρ2
    cases this
  have fin : ∀ (e : Ending) (w' : World) (g cap : Nat) (arr : Array Value), Kept w w' X → (∀ k, d0 k → w'.heap[k]? = w.heap[k]?) → Mine w X g → ¬ d0 g → w'.heap[g]? = some (.cells arr 3 (0, 0)) → arr.size = cap → cap ≤ maxLen → rows.length + 1 ≤ cap →
      RowsV w d0 1 (rows.take i ++ [r] ++ rows.drop i) (arr.toList.take (rows.length + 1)) → e = .returned (.slice (some ⟨g, 0, none⟩) (rows.length + 1) cap) →
      ∃ v, e = .returned v ∧ ∃ D ρ, StD w X ⟨d0, fixA [SV.fresh 3 1 rows, .d (.int .i64 i), .fresh 3 1 [r]] ρ0⟩ (fun _ => True) D ρ (Er (.own 0)) (lkB [(0, some (.row 3 1 (rows.take i ++ [r] ++ rows.drop i)))]) ⟨#[v], []⟩ w' := by
    intro e w' g cap arr hk hd hm hnd hh ha hcm hl hv he
    have hlen : (rows.take i ++ [r] ++ rows.drop i).length = rows.length + 1 := by simp; omega
    have hv' := hv.mono (w' := w') (D' := d0) hd (fun _ h => h)
    have := row_end (rows := rows.take i ++ [r] ++ rows.drop i) (cap := cap) (sz := 1) hs hpb hk hd hm hnd hh (by omega) (by omega) hcm (by rw [hlen]; exact hl) (by rw [hlen, Nat.mul_one]; exact hv')
    rw [hlen] at this
    exact ⟨_, he, this⟩
  have hus1 : ∀ u ∈ us, u.oneCell' = true := hU.one
  have hvs' : vs = #[vs.getD 0 undef, .int .i64 i, .slice (some ⟨g2, 0, none⟩) 1 cap2] := by
    obtain ⟨l⟩ := vs
    match l, hvs3 with
    | [a, b, c], _ =>
      simp at h1 hv2
      simp [h1, hv2]
  have halloc : ∀ o : Obj, (w.drew.alloc o).heap[w.heap.size]? = some o := by
    intro o
    show (w.heap.push o)[w.heap.size]? = some o
    exact Array.getElem?_push_size
  have hz : (Value.int .i64 0).cells.size = 1 := rfl
  have hka : ∀ o : Obj, Kept w (w.drew.alloc o) X := fun o => Kept.alloc (Kept.drew hs.kept) o
  have hda : ∀ o : Obj, ∀ k, d0 k → (w.drew.alloc o).heap[k]? = w.heap[k]? := fun o k hk => hao w.drew o k (hs.dlt k hk)
  have hnew : ¬ d0 w.heap.size := fun h => Nat.lt_irrefl _ (hs.dlt _ h)
  have hmaxc : ∀ n, n ≤ maxLen → grownCap w n rows.length 3 ≤ maxLen := fun n hn => grownCap_le_maxLen w n _ _ hn
  rcases c0 with ⟨rfl, hv0⟩ | ⟨g, cap, arr, hρ, hv0, hh, ha, _, hl, hc, hR, hnd, hM, hlt⟩
  · have hi0 : i = 0 := by simpa using hi
    subst hi0
    simp only at hv0
    rw [hvs', hv0]
    refine Calls.mono (Any2.slices_Insert_int_end_grow insL none 0 0 g2 0 1 cap2 [] us w (by omega) (by omega) (by omega) (by omega) rfl hul (fun _ => rfl) (fun a h => by cases h) hUc' hus1) ?_
    rintro e w' ⟨he, rfl⟩
    have hg1 := grownCap_ge w (0 + 1) 0 3
    refine fin e _ w.heap.size (grownCap w (0 + 1) 0 3) _ (hka _) (hda _) (.inl (Nat.le_refl _)) hnew (halloc _) ?_ (grownCap_le_maxLen w _ _ _ (by unfold maxLen; omega)) hg1 ?_ he
    · show (([] ++ us).toArray ++ Builtin.zeroCells (Value.int .i64 0).cells (grownCap w (0 + 1) 0 3 - (0 + 1))).size = _
      rw [Array.size_append, size_zeroCells, hz, Nat.mul_one, List.size_toArray, List.nil_append, hul]
      omega
    · show RowsV w d0 1 _ ((([] ++ us).toArray ++ Builtin.zeroCells (Value.int .i64 0).cells (grownCap w (0 + 1) 0 3 - (0 + 1))).toList.take (0 + 1))
      have e3 : (([] ++ us).toArray ++ Builtin.zeroCells (Value.int .i64 0).cells (grownCap w (0 + 1) 0 3 - (0 + 1))).toList.take (0 + 1) = us := by
        rw [Array.toList_append]
        exact List.take_left' (by simpa using hul)
      rw [e3]
      exact hU
  · obtain ⟨cs, hC, hCc⟩ := RowsV.of_rows hR
    have hcl : cs.length = rows.length := by rw [hC.length]; simp
    have hCc' := getv hCc
    have hcs1 : ∀ u ∈ cs, u.oneCell' = true := hC.one
    rw [Nat.mul_one] at ha
    have hal : arr.toList.length = cap := by rw [Array.length_toList (xs := arr)]; exact ha
    simp only at hv0
    rw [hvs', hv0]
    have hg := hne g hρ
    have hspare : ∀ j, j < cap → (w.cell? ⟨g, 0 + j, none⟩).isSome = true := by
      intro j hj
      rw [Nat.zero_add, cell_at hh]
      simp; omega
    have hfz : ∀ j, w.frozen? ⟨g, j, none⟩ = false := by
      intro j
      simp [World.frozen?, hh]
    have hfz2 : ∀ j, w.frozen? ⟨g2, j, none⟩ = false := by
      intro j
      simp [World.frozen?, hh2]
    have hsplit : RowsV w d0 1 (rows.take i ++ [r] ++ rows.drop i) (cs.take i ++ us ++ cs.drop i) := by
      have a1 := hC.take i
      have a2 := hC.drop i
      rw [Nat.mul_one] at a1 a2
      exact (a1.append hU).append a2
    have hold : arr.toList.take rows.length = cs := by
      apply List.ext_getElem?
      intro j
      rw [List.getElem?_take]
      by_cases hj : j < rows.length
      · rw [if_pos hj]
        have hj' : j < cs.length := by omega
        have := hCc' j _ (List.getElem?_eq_getElem hj')
        rw [Nat.zero_add, cell_at hh] at this
        rw [List.getElem?_eq_getElem hj', ← this, Array.getElem?_toList]
      · rw [if_neg hj, List.getElem?_eq_none (by omega)]
    by_cases hin : i = rows.length
    · subst hin
      have hsplit' : RowsV w d0 1 (rows.take rows.length ++ [r] ++ rows.drop rows.length) (cs ++ us) := by
        have t1 : cs.take rows.length = cs := List.take_of_length_le (by omega)
        have t2 : cs.drop rows.length = [] := List.drop_eq_nil_of_le (by omega)
        rw [t1, t2, List.append_nil] at hsplit
        exact hsplit
      by_cases hroom : rows.length + 1 ≤ cap
      · refine Calls.mono (Any2.slices_Insert_int_end_room insL g 0 rows.length cap g2 0 1 cap2 us w (by omega) hroom (by unfold maxLen at hc; omega) hul (fun j hj => ?_) (fun j _ => hfz _) hUc' hus1) ?_
        · rw [Nat.zero_add]
          have := hspare (rows.length + j) (by omega)
          rwa [Nat.zero_add] at this
        · rintro e w' ⟨he, rfl⟩
          obtain ⟨arr', k1, k2⟩ := heap_setCells g us (0 + rows.length) w arr _ _ hh (by rw [hul]; omega)
          refine fin e _ g cap arr' (Kept.setCells g hM _ _ _ hs.kept) (fun k hk => other_setCells g k (fun e => hnd (e ▸ hk)) _ _ _) hM hnd k1 ?_ hc hroom ?_ he
          · rw [← Array.length_toList, k2, splice_length (by rw [hul, hal]; omega), hal]
          · have : arr'.toList.take (rows.length + 1) = cs ++ us := by
              apply List.ext_getElem?
              intro j
              rw [k2, List.getElem?_take, splice_get (by rw [hul, hal]; omega), List.getElem?_append, hcl, Nat.zero_add, hul]
              have old : ∀ q, q < rows.length → arr.toList[q]? = cs[q]? := by
                intro q hq
                rw [← hold, List.getElem?_take, if_pos hq]
              by_cases c1 : j < rows.length
              · rw [if_pos (by omega), if_pos c1, if_pos c1, old j c1]
              · by_cases c2 : j < rows.length + 1
                · rw [if_pos c2, if_neg c1, if_pos c2, if_neg c1]
                · rw [if_neg c2, if_neg c1, List.getElem?_eq_none (by omega)]
            rw [this]
            exact hsplit'
      · refine Calls.mono (Any2.slices_Insert_int_end_grow insL (some ⟨g, 0, none⟩) rows.length cap g2 0 1 cap2 cs us w (by omega) hl (by omega) (by omega) hcl hul (fun h => by cases h) (fun a h j v hj => ?_) hUc' hus1) ?_
        · injection h with h
          subst h
          have := hCc j v hj
          rwa [Nat.zero_add] at this
        · rintro e w' ⟨he, rfl⟩
          have hg1 := grownCap_ge w (rows.length + 1) cap 3
          refine fin e _ w.heap.size (grownCap w (rows.length + 1) cap 3) _ (hka _) (hda _) (.inl (Nat.le_refl _)) hnew (halloc _) ?_ (grownCap_le_maxLen w _ _ _ (by unfold maxLen; omega)) hg1 ?_ he
          · show ((cs ++ us).toArray ++ Builtin.zeroCells (Value.int .i64 0).cells (grownCap w (rows.length + 1) cap 3 - (rows.length + 1))).size = _
            rw [Array.size_append, size_zeroCells, hz, Nat.mul_one, List.size_toArray, List.length_append, hul, hcl]
            omega
          · show RowsV w d0 1 _ (((cs ++ us).toArray ++ Builtin.zeroCells (Value.int .i64 0).cells (grownCap w (rows.length + 1) cap 3 - (rows.length + 1))).toList.take (rows.length + 1))
            have hlu : (cs ++ us).length = rows.length + 1 := by rw [List.length_append, hul, hcl]
            rw [Array.toList_append, List.take_append]
            simp only [hlu]
            rw [List.take_of_length_le (l := cs ++ us) (by omega), Nat.sub_self, List.take_zero, List.append_nil]
            exact hsplit'
    · have hilt : i < rows.length := by omega
      by_cases hroom : rows.length + 1 ≤ cap
      · refine Calls.mono (Any2.slices_Insert_int_shift insL g 0 rows.length cap i g2 0 1 cap2 cs us w hilt (by omega) hroom (by unfold maxLen at hc; omega) hg hcl hul hCc' (fun j hj => hspare j (by omega)) (fun j _ => hfz _) hUc' hcs1 hus1 3 3 arr2.size arr.size (by simp only [World.shape?, hh2]) (by simp only [World.shape?, hh]) (by omega) (hfz2 _) (hfz2 _)) ?_
        rintro e w' ⟨he, rfl⟩
        have hdr : w.drew.heap[g]? = some (.cells arr 3 (0, 0)) := hh
        obtain ⟨arr1, k1, k2⟩ := heap_setCells g (cs.drop i) (0 + (i + 1)) w.drew arr _ _ hdr (by rw [List.length_drop]; omega)
        have z1 : arr1.toList.length = cap := by rw [k2, splice_length (by rw [List.length_drop, hal]; omega), hal]
        have z1' : arr1.size = cap := by rw [← Array.length_toList]; exact z1
        obtain ⟨arr3, k3, k4⟩ := heap_setCells g us (0 + i) _ arr1 _ _ k1 (by rw [hul]; omega)
        refine fin e _ g cap arr3 (Kept.setCells g hM _ _ _ (Kept.setCells g hM _ _ _ (Kept.drew hs.kept))) (fun k hk => ?_) hM hnd k3 ?_ hc hroom ?_ he
        · have hkg : k ≠ g := fun e => hnd (e ▸ hk)
          rw [other_setCells g k hkg, other_setCells g k hkg]
          rfl
        · rw [← Array.length_toList, k4, splice_length (by rw [hul, z1]; omega), z1]
        · have : arr3.toList.take (rows.length + 1) = cs.take i ++ us ++ cs.drop i := by
            apply List.ext_getElem?
            intro j
            rw [k4, List.getElem?_take, splice_get (by rw [hul, z1]; omega), k2, splice_get (by rw [List.length_drop, hal]; omega), List.getElem?_append, List.getElem?_append, List.getElem?_drop, List.getElem?_take]
            simp only [List.length_append, List.length_take, List.length_drop, hul, hcl, Nat.zero_add]
            rw [Nat.min_eq_left (by omega : i ≤ rows.length)]
            have old : ∀ q, q < rows.length → arr.toList[q]? = cs[q]? := by
              intro q hq
              rw [← hold, List.getElem?_take, if_pos hq]
            by_cases c1 : j < i
            · rw [if_pos (by omega), if_pos c1, if_pos (by omega), if_pos (by omega), if_pos c1, if_pos c1, old j (by omega)]
            · by_cases c2 : j < i + 1
              · rw [if_pos (by omega), if_neg c1, if_pos c2, if_pos c2, if_neg c1]
              · by_cases c3 : j < rows.length + 1
                · rw [if_pos c3, if_neg c1, if_neg c2, if_neg c2, if_pos (by omega), if_neg c2, List.getElem?_drop]
                · rw [if_neg c3, if_neg c2, List.getElem?_eq_none (l := cs.drop i) (by rw [List.length_drop]; omega)]
          rw [this]
          exact hsplit
      · refine Calls.mono (Any2.slices_Insert_int_grow insL g 0 rows.length cap i g2 0 1 cap2 cs us w hilt (by omega) hl (by omega) (by omega) hcl hul hCc' hUc' hcs1 hus1) ?_
        rintro e w' ⟨he, rfl⟩
        have hg1 := grownCap_ge w (rows.length + 1) cap 3
        obtain ⟨G, hG⟩ : ∃ G, grownCap w (rows.length + 1) cap 3 = G := ⟨_, rfl⟩
        have hgm := grownCap_le_maxLen w (rows.length + 1) cap 3 (by unfold maxLen; omega)
        have he' : e = .returned (.slice (some ⟨w.heap.size, 0, none⟩) (rows.length + 1) G) := by rw [← hG]; exact he
        rw [hG] at hg1 hgm
        obtain ⟨A0, hA0⟩ : ∃ A0, A0 = (cs.take i).toArray ++ Builtin.zeroCells (Value.int .i64 0).cells (rows.length + 1 - i) ++ Builtin.zeroCells (Value.int .i64 0).cells (G - (rows.length + 1)) := ⟨_, rfl⟩
        have hs0 : A0.size = G := by
          rw [hA0, Array.size_append, Array.size_append, size_zeroCells, size_zeroCells, hz, Nat.mul_one, Nat.mul_one, List.size_toArray, List.length_take]
          omega
        have hs0' : A0.toList.length = G := by rw [Array.length_toList (xs := A0)]; exact hs0
        have h00 : ∀ j, j < i → A0.toList[j]? = cs[j]? := by
          intro j hj
          rw [hA0, Array.toList_append, Array.toList_append, List.getElem?_append_left (by simp [hcl]; omega), List.getElem?_append_left (by simp [hcl]; omega)]
          simp [hj]
        obtain ⟨W0, hW0⟩ : ∃ W0, W0 = (w.alloc (.cells A0 3)).drew := ⟨_, rfl⟩
        have hW0g : W0.heap[w.heap.size]? = some (.cells A0 3 (0, 0)) := by
          rw [hW0]
          show (w.heap.push _)[w.heap.size]? = _
          exact Array.getElem?_push_size
        obtain ⟨arr1, k1, k2⟩ := heap_setCells w.heap.size us i W0 A0 _ _ hW0g (by rw [hul]; omega)
        have z1 : arr1.toList.length = G := by rw [k2, splice_length (by rw [hul, hs0']; omega), hs0']
        have z1' : arr1.size = G := by rw [← Array.length_toList]; exact z1
        obtain ⟨arr3, k3, k4⟩ := heap_setCells w.heap.size (cs.drop i) (i + 1) (W0.setCells w.heap.size i us).drew arr1 _ _ k1 (by rw [List.length_drop]; omega)
        have z3 : arr3.toList.length = G := by rw [k4, splice_length (by rw [List.length_drop, z1]; omega), z1]
        have hWe : (((w.alloc (.cells ((cs.take i).toArray ++ Builtin.zeroCells (Value.int .i64 0).cells (rows.length + 1 - i) ++ Builtin.zeroCells (Value.int .i64 0).cells (grownCap w (rows.length + 1) cap (insRen.t 3) - (rows.length + 1))) (insRen.t 3))).drew.setCells w.heap.size i us).drew).setCells w.heap.size (i + 1) (cs.drop i) = ((W0.setCells w.heap.size i us).drew).setCells w.heap.size (i + 1) (cs.drop i) := by
          rw [hW0, hA0, ← hG]
          rfl
        have hKW : Kept w W0 X := by rw [hW0]; exact Kept.drew (Kept.alloc hs.kept _)
        rw [hWe]
        refine fin e _ w.heap.size G arr3 (Kept.setCells _ (.inl (Nat.le_refl _)) _ _ _ (Kept.drew (Kept.setCells _ (.inl (Nat.le_refl _)) _ _ _ hKW))) (fun k hk => ?_) (.inl (Nat.le_refl _)) hnew k3 (by rw [← Array.length_toList]; exact z3) hgm hg1 ?_ he'
        · have hkl := hs.dlt k hk
          rw [other_setCells _ k (by omega)]
          show (W0.setCells w.heap.size i us).heap[k]? = _
          rw [other_setCells _ k (by omega), hW0]
          exact hao w _ k hkl
        · have : arr3.toList.take (rows.length + 1) = cs.take i ++ us ++ cs.drop i := by
            apply List.ext_getElem?
            intro j
            rw [k4, List.getElem?_take, splice_get (by rw [List.length_drop, z1]; omega), k2, splice_get (by rw [hul, hs0']; omega), List.getElem?_append, List.getElem?_append, List.getElem?_take]
            simp only [List.length_append, List.length_take, List.length_drop, hul, hcl]
            rw [Nat.min_eq_left (by omega : i ≤ rows.length)]
            by_cases c1 : j < i
            · rw [if_pos (by omega), if_pos (by omega), if_pos c1, if_pos (by omega), if_pos c1, if_pos c1, h00 j c1]
            · by_cases c2 : j < i + 1
              · rw [if_pos (by omega), if_pos c2, if_neg c1, if_pos c2, if_pos c2, if_neg c1]
              · by_cases c3 : j < rows.length + 1
                · rw [if_pos c3, if_neg c2, if_pos (by omega), if_neg c2]
                · rw [if_neg c3, if_neg c2, List.getElem?_eq_none (l := cs.drop i) (by rw [List.length_drop]; omega)]
          rw [this]
          exact hsplit
end Go.Proofs.Ytikfkipalifohaa
