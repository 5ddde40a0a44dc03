/- What is kept of producers, behind a pointer: in plain words, and as a state. -/
import Derived.Test.YtmdgkjjdcfpjiaaPProducerOncex1
import Derived.Maps.OwnSet
import Derived.Maps.OwnOps
import Derived.WalkSpells
import Derived.Carry
import Derived.RegionTactic
import Derived.Deep.QuietTactic
import Derived.BigQuiet
import Derived.ChangeAlike
import Derived.StillTailTactics
import Derived.LoopTactic
import Derived.Deep.RegionHeld3
namespace Go.Proofs.Ytmdgkjjdcfpjiaa.PT
open Go.RowKit Go.Maps Go.MapKept Go.ChangeMaps Go.WideElems Go.WideMaps Go.WideShapes Go.Proofs.YtmdgkjjdcfpjiaaW.PrintWords Go.Proofs.YtmdgkjjdcfpjiaaW.PrintLast Go.Proofs.YtmdgkjjdcfpjiaaW.PrintMore Go.Proofs.Ytmdgkjjdcfpjiaa.PProducerOnce
set_option linter.unusedVariables false
set_option linter.unusedSimpArgs false
set_option maxRecDepth 100000

/-- What is kept of a producer. -/
structure One where
  ep : Int
  l : List S97
/-- What is kept, by producers. -/
abbrev Tab := Int → Option One
/-- The next number. -/
def nextO (o : One) : Int := match o.l.getLast? with | some x => wrap64 (x.f0 + x.f1) | none => 0
/-- Whether a batch may come. -/
def checkT (f : Tab) (p ep seq n : Int) : Int × Bool × Int :=
  if p ≤ 0 then (0, false, 0)
  else match f p with
    | none => (0, false, if seq ≠ 0 then 10 else 0)
    | some o =>
      if ep < o.ep then (0, false, 11)
      else if ep > o.ep then (0, false, if seq ≠ 0 then 10 else 0)
      else if seq = nextO o then (0, false, 0)
      else match o.l.find? (fun x => x.f0 == seq && x.f1 == n) with
        | some x => (x.f2, true, 0)
        | none => if seq < nextO o then (0, false, 9) else (0, false, 10)
/-- What is kept of a producer behind one batch more. -/
def oneT (f : Tab) (p ep seq n base : Int) : One :=
  let l := (match f p with | some o => if ep > o.ep then [] else o.l | none => []) ++ [⟨seq, n, base⟩]
  ⟨match f p with | some o => if ep > o.ep then ep else o.ep | none => ep, l.drop (l.length - 5)⟩
/-- A batch is the last one of its producer, if it may be. -/
def addT (f : Tab) (p ep seq n base : Int) : Int × Tab :=
  if p ≤ 0 then (0, f)
  else if (checkT f p ep seq n).2.2 ≠ 0 then ((checkT f p ep seq n).2.2, f)
  else if (checkT f p ep seq n).2.1 = true then (9, f)
  else if n = 0 then (10, f)
  else (0, fun q => if q = p then some (oneT f p ep seq n base) else f q)

/-- An element of the map is taken as it stands. -/
def held (v : Value) : Option (DataW Value × List MemPlace) := some (.held v, [])
theorem held_inj {v : Value} {d : DataW Value} {ps : List MemPlace} (h : held v = some (d, ps)) : d = .held v := by
  unfold held at h
  injection h with h
  injection h with h1 h2
  exact h1.symm
theorem law3 : Keyed Try.prog 3 := int_keyed Try.underlying3
def zero93 : Value := .agg #[.int .i64 0, .slice none 0 0]
theorem zeroV (w : World) : (zeroValue 93).run Try.prog w = .ok zero93 w := by kernel_rfl
theorem key3 {a : Int} (h : (Lit.int .i64 a).wf = true) : keyOf Try.prog 3 (.int .i64 a) = some (.int .i64 a) := keyOf_int_mk Try.underlying3 h

/-- A block of batches. -/
def T97 (W : World) (q : Nat) : Prop := ∃ cs, W.heap[q]? = some (.cells cs 97 (0, 0))
theorem T97.keep {W W1 : World} {q : Nat} (h : T97 W q) (hq : W1.heap[q]? = W.heap[q]?) : T97 W1 q := by obtain ⟨cs, h⟩ := h; exact ⟨cs, hq.trans h⟩
theorem T97.below {W W1 : World} {q : Nat} (h : T97 W q) (hw : Below W.heap.size W W1) : T97 W1 q := by obtain ⟨cs, h⟩ := h; exact ⟨cs, (hw.block q (blk_lt h)).trans h⟩
/-- The state: a block of one cell, and the map's own block; rows that nobody writes, in blocks of batches. -/
def IsPT (w0 W : World) (g b : Nat) (N : Nat) (f : Tab) : Prop :=
  W.heap[g]? = some (.cells #[.map (some b)] 90 (0, 0)) ∧ w0.heap.size ≤ g ∧ w0.heap.size ≤ b ∧ ∃ D : DataW Value, W.ownsMap Try.prog 3 held b N D ∧
    ∀ k, (Lit.int .i64 k).wf = true → match f k with
      | none => Maps.has D (.int .i64 k) = false
      | some o => Maps.has D (.int .i64 k) = true ∧ o.l ≠ [] ∧ o.l.length ≤ 5 ∧ ∃ (A : Option Addr) (c : Nat), (∀ z, D.atKey (.int .i64 k) z = .held (.agg #[.int .i64 o.ep, .slice A o.l.length c])) ∧ o.l.length ≤ c ∧ Kd.F k97 W (T97 W) A o.l.length o.l
theorem IsPT.below {w0 W W1 : World} {g b : Nat} {N : Nat} {f : Tab} (h : IsPT w0 W g b N f) (hw : Below W.heap.size W W1) : IsPT w0 W1 g b N f := by
  obtain ⟨h1, h2, h3, D, ⟨es, clock, hb, F, hs, hD⟩, h7⟩ := h
  refine ⟨(hw.block g (blk_lt h1)).trans h1, h2, h3, D, ⟨es, clock, (hw.block b (blk_lt hb)).trans hb, F, hs, hD⟩, fun k hk => ?_⟩
  have := h7 k hk
  cases hf : f k with
  | none => rw [hf] at this; exact this
  | some o =>
    rw [hf] at this
    obtain ⟨a1, a2, a3, A, c, a4, a5, a6⟩ := this
    exact ⟨a1, a2, a3, A, c, a4, a5, Kd.F_mono (Kd.F_below a6 hw) (fun q hq => hq.below hw)⟩
theorem IsPT.alloc {w0 W : World} {g b : Nat} {N : Nat} {f : Tab} (h : IsPT w0 W g b N f) (o : Obj) : IsPT w0 (W.alloc o) g b N f := h.below (below_alloc (Below.refl _ _) o)
theorem IsPT.drewN {w0 W : World} {g b : Nat} {N : Nat} {f : Tab} (h : IsPT w0 W g b N f) (m : Nat) : IsPT w0 (W.drewN m) g b N f := h.below (pw_below_drewN (Below.refl _ _) m)
/-- What a look-up gives. -/
theorem look_none {w0 W : World} {g b : Nat} {N : Nat} {f : Tab} (h : IsPT w0 W g b N f) {k : Int} (hk : (Lit.int .i64 k).wf = true) (hf : f k = none) :
    (Instr.lookup 88 (.map (some b)) (.int .i64 k) true).run Try.prog W = .ok (.tuple #[zero93, .bool false]) W := by
  obtain ⟨h1, h2, h3, D, ho, h7⟩ := h
  obtain ⟨v, ps, hr, hv⟩ := ho.look_ok law3 Try.underlying88 (zeroV W) (zd := .held zero93) (zp := []) rfl (key3 hk)
  have h8 := h7 k hk
  rw [hf] at h8
  have h8 : Maps.has D (.int .i64 k) = false := h8
  rw [h8] at hr
  have h9 := held_inj hv
  rw [atKey_of_not_has h8] at h9
  injection h9 with h9
  rw [hr, ← h9]
theorem ownsB {W W1 : World} {b N : Nat} {D : DataW Value} (h : W.ownsMap Try.prog 3 held b N D) (hw : Below W.heap.size W W1) : W1.ownsMap Try.prog 3 held b N D := by
  obtain ⟨es, clock, hb, F, hs, hD⟩ := h
  exact ⟨es, clock, (hw.block b (blk_lt hb)).trans hb, F, hs, hD⟩
theorem look_some {w0 W : World} {g b : Nat} {N : Nat} {f : Tab} (h : IsPT w0 W g b N f) {k : Int} (hk : (Lit.int .i64 k).wf = true) {o : One} (hf : f k = some o) :
    ∃ (A : Option Addr) (c : Nat), (∀ W1, Below W.heap.size W W1 → (Instr.lookup 88 (.map (some b)) (.int .i64 k) true).run Try.prog W1 = .ok (.tuple #[.agg #[.int .i64 o.ep, .slice A o.l.length c], .bool true]) W1) ∧ o.l ≠ [] ∧ o.l.length ≤ 5 ∧ o.l.length ≤ c ∧ Kd.F k97 W (T97 W) A o.l.length o.l := by
  obtain ⟨h1, h2, h3, D, ho, h7⟩ := h
  have h8 := h7 k hk
  rw [hf] at h8
  obtain ⟨a1, a2, a3, A, c, a4, a5, a6⟩ := h8
  refine ⟨A, c, fun W1 hw => ?_, a2, a3, a5, a6⟩
  obtain ⟨v, ps, hr, hv⟩ := (ownsB ho hw).look_ok law3 Try.underlying88 (zeroV W1) (zd := .held zero93) (zp := []) rfl (key3 hk)
  have h9 := held_inj hv
  rw [a4] at h9
  injection h9 with h9
  rw [a1] at hr
  rw [hr, ← h9]
/-- What is put in. -/
theorem IsPT.put {w0 W : World} {g b : Nat} {N : Nat} {f : Tab} (h : IsPT w0 W g b N f) {k : Int} {o : One} (hk : (Lit.int .i64 k).wf = true) (h1 : o.l ≠ []) (h2 : o.l.length ≤ 5) {A : Option Addr} {c : Nat} (h3 : o.l.length ≤ c) (h4 : Kd.F k97 W (T97 W) A o.l.length o.l) :
    ∃ D : DataW Value, W.ownsMap Try.prog 3 held b N D ∧ ∀ W1, W1.ownsMap Try.prog 3 held b (N + 1) (D.put (.int .i64 k) (.held (.agg #[.int .i64 o.ep, .slice A o.l.length c]))) → W.grownBy W1 (some b) → IsPT w0 W1 g b (N + 1) (fun q => if q = k then some o else f q) := by
  obtain ⟨g1, g2, g3, D, ho, g7⟩ := h
  refine ⟨D, ho, fun W1 ho1 hg => ?_⟩
  have hD : IsMap D := ho.isMap
  have hK : WideAt.IsKeyLit (.int .i64 k) := trivial
  have hgb : g ≠ b := by
    rintro rfl
    obtain ⟨es, clock, hb, _⟩ := ho
    rw [g1] at hb
    cases hb
  have hbT : ∀ q, T97 W q → some q ≠ some b := fun q hq he => by
    injection he with he
    subst he
    obtain ⟨cs, hq⟩ := hq
    obtain ⟨es, clock, hb, _⟩ := ho
    rw [hq] at hb
    cases hb
  have hTT : ∀ q, T97 W q → T97 W1 q := fun q hq => hq.keep (hg.block q (by obtain ⟨cs, h⟩ := hq; exact blk_lt h) (hbT q hq))
  refine ⟨(hg.block g (blk_lt g1) (by simpa using hgb)).trans g1, g2, g3, _, ho1, fun q hq => ?_⟩
  by_cases e : q = k
  · subst e
    simp only [if_pos rfl]
    exact ⟨has_put_same hD hK _, h1, h2, A, c, fun z => atKey_put_same hD hK _ _, h3, Kd.F_mono (Kd.F_grown h4 hg hbT) hTT⟩
  · have hne : (Lit.int .i64 q) ≠ .int .i64 k := fun h => e (by injection h)
    simp only [if_neg e]
    have := g7 q hq
    cases hf : f q with
    | none => rw [hf] at this; exact (has_put_other hne _).trans this
    | some o' =>
      rw [hf] at this
      obtain ⟨a1, a2, a3, A', c', a4, a5, a6⟩ := this
      exact ⟨(has_put_other hne _).trans a1, a2, a3, A', c', fun z => (atKey_put_other hne _ _).trans (a4 z), a5, Kd.F_mono (Kd.F_grown a6 hg hbT) hTT⟩
/-- Another block is written. -/
theorem IsPT.grown {w0 W W1 : World} {g b : Nat} {N : Nat} {f : Tab} (h : IsPT w0 W g b N f) {row : Option Nat} (hg : W.grownBy W1 row) (h1 : some g ≠ row) (h2 : some b ≠ row) (h3 : ∀ q, T97 W q → some q ≠ row) : IsPT w0 W1 g b N f := by
  obtain ⟨g1, g2, g3, D, ⟨es, clock, hb, F, hs, hD⟩, g7⟩ := h
  have hTT : ∀ q, T97 W q → T97 W1 q := fun q hq => hq.keep (hg.block q (by obtain ⟨cs, h⟩ := hq; exact blk_lt h) (h3 q hq))
  refine ⟨(hg.block g (blk_lt g1) h1).trans g1, g2, g3, D, ⟨es, clock, (hg.block b (blk_lt hb) h2).trans hb, F, hs, hD⟩, fun k hk => ?_⟩
  have := g7 k hk
  cases hf : f k with
  | none => rw [hf] at this; exact this
  | some o =>
    rw [hf] at this
    obtain ⟨a1, a2, a3, A, c, a4, a5, a6⟩ := this
    exact ⟨a1, a2, a3, A, c, a4, a5, Kd.F_mono (Kd.F_grown a6 hg h3) hTT⟩

theorem size_alloc (w : World) (o : Obj) : (w.alloc o).heap.size = w.heap.size + 1 := by unfold World.alloc; exact Array.size_push ..
theorem blk_new (w : World) (o : Obj) : (w.alloc o).heap[w.heap.size]? = some o := by unfold World.alloc; exact Array.getElem?_push_size
theorem two_a (w : World) (o1 o2 : Obj) : ((w.alloc o1).alloc o2).drew.heap[w.heap.size]? = some o1 := (Below.heap_alloc _ _ _ (by rw [size_alloc]; omega)).trans (blk_new w o1)
theorem two_b (w : World) (o1 o2 : Obj) : ((w.alloc o1).alloc o2).drew.heap[w.heap.size + 1]? = some o2 := by
  have := blk_new (w.alloc o1) o2
  rw [size_alloc] at this
  exact this
/-- The last batch's end. -/
theorem next_is (ep : Int) (l : List S97) (h : l ≠ []) (h5 : l.length ≤ 5) : producer_one_next.f ep l = some (nextO ⟨ep, l⟩) := by
  have hp : 0 < l.length := List.length_pos_iff.2 h
  have hw : wrap64 ((l.length : Int) - 1) = ((l.length - 1 : Nat) : Int) := by
    have : (l.length : Int) - 1 = ((l.length - 1 : Nat) : Int) := by omega
    rw [this]
    unfold wrap64
    omega
  unfold producer_one_next.f
  rw [hw, if_pos (by omega), if_pos (by omega)]
  unfold nextO rd_T97
  rw [List.getLast?_eq_getElem?]
  simp only [Int.toNat_natCast, List.getD_eq_getElem?_getD]
  rw [List.getElem?_eq_getElem (by omega)]
  rfl
theorem next_calls (ep : Int) (A : Option Addr) (c : Nat) (l : List S97) (w : World) (hr : Kd.C k97 w A l.length l) (hc : l.length ≤ c) (h : l ≠ []) (h5 : l.length ≤ 5) :
    Calls Try.prog 36 #[.agg #[.int .i64 ep, .slice A l.length c]] w fun e w' => e = .returned (.int .i64 (nextO ⟨ep, l⟩)) ∧ Below w.heap.size w w' :=
  producer_one_next.calls ep A c l _ w hr hc (next_is ep l h h5)

theorem meas (n i : Nat) (h : i < n) : n - (intOf (.int .i64 ((i : Int) + 1))).toNat < n - (intOf (.int .i64 (i : Int))).toNat := by
  show n - ((i : Int) + 1).toNat < n - ((i : Int)).toNat
  omega
/-- Behind i rounds: none of the first i is the batch. -/
def CL (w1 : World) (l : List S97) (seq : Int) (n : Nat) (b : Value) (wr : World) : Prop :=
  ∃ i : Nat, b = .int .i64 (i : Int) ∧ i ≤ l.length ∧ (l.take i).find? (fun x => x.f0 == seq && x.f1 == (n : Int)) = none ∧ Below w1.heap.size w1 wr
set_option maxHeartbeats 4000000 in
set_option maxRecDepth 100000 in
theorem check_pt {w0 w : World} {g b : Nat} {N : Nat} {f : Tab} (h : IsPT w0 w g b N f) (base last p ep seq : Int) (A : Option Addr) (n c : Nat) (hp : (Lit.int .i64 p).wf = true) {r : Int × Bool × Int} (hr : checkT f p ep seq n = r) :
    Calls Try.prog 13 #[.pointer (some ⟨g, 0, none⟩), .agg #[.int .i64 base, .int .i64 last, .int .i64 p, .int .i64 ep, .int .i64 seq, .slice A n c]] w fun e w' => e = .returned (.tuple #[.int .i64 r.1, .bool r.2.1, .int .i64 r.2.2]) ∧ Below w.heap.size w w' := by
  by_cases h0 : p ≤ 0
  · unfold checkT at hr
    rw [if_pos h0] at hr
    subst hr
    go_enter Try.func13, Try.ntmps13
    go_wp2
    go_ret3
    exact ⟨rfl, below_alloc (Below.refl _ _) _⟩
  · have HI := Aside0.mk h
    clear h
    have cg : w.cell? ⟨g, 0, none⟩ = some (.map (some b)) := (blk_cell HI.out.1 0).trans rfl
    cases hf : f p with
    | none =>
      have hl : ∀ o1 o2 : Obj, (Instr.lookup 88 (.map (some b)) (.int .i64 p) true).run Try.prog ((w.alloc o1).alloc o2).drew = .ok (.tuple #[.agg #[.int .i64 0, .slice none 0 0], .bool false]) ((w.alloc o1).alloc o2).drew := fun o1 o2 => look_none (((HI.out.alloc o1).alloc o2).drewN 1) hp hf
      have cg2 : ∀ o1 o2 : Obj, ((w.alloc o1).alloc o2).cell? ⟨g, 0, none⟩ = some (.map (some b)) := fun o1 o2 => (blk_cell ((HI.out.alloc o1).alloc o2).1 0).trans rfl
      go_enter Try.func13, Try.ntmps13
      go_wp2_with fail
      go_region
      all_goals go_wp2
      · go_ret3
        rename_i hs
        unfold checkT at hr
        rw [if_neg (Int.not_le.mpr h0), hf] at hr
        have hs' : seq ≠ 0 := by simpa using hs
        simp only [if_pos hs'] at hr
        subst hr
        exact ⟨rfl, by (repeat (first | exact Below.refl _ _ | assumption | refine below_drew ?_ | refine below_alloc ?_ _ | refine pw_below_drewN ?_ _))⟩
      · go_ret3
        rename_i hs
        unfold checkT at hr
        rw [if_neg (Int.not_le.mpr h0), hf] at hr
        have hs' : ¬ seq ≠ 0 := by simpa using hs
        simp only [if_neg hs'] at hr
        subst hr
        exact ⟨rfl, by (repeat (first | exact Below.refl _ _ | assumption | refine below_drew ?_ | refine below_alloc ?_ _ | refine pw_below_drewN ?_ _))⟩
    | some o =>
      obtain ⟨A1, c1, hl0, hne, hlen, hc1, hF⟩ := look_some HI.out hp hf
      have hl : ∀ o1 o2 : Obj, (Instr.lookup 88 (.map (some b)) (.int .i64 p) true).run Try.prog ((w.alloc o1).alloc o2).drew = .ok (.tuple #[.agg #[.int .i64 o.ep, .slice A1 o.l.length c1], .bool true]) ((w.alloc o1).alloc o2).drew := fun o1 o2 => hl0 _ (by (repeat (first | exact Below.refl _ _ | assumption | refine below_drew ?_ | refine below_alloc ?_ _ | refine pw_below_drewN ?_ _)))
      clear hl0
      have HF := Aside0.mk hF
      clear hF
      have cg2 : ∀ o1 o2 : Obj, ((w.alloc o1).alloc o2).cell? ⟨g, 0, none⟩ = some (.map (some b)) := fun o1 o2 => (blk_cell ((HI.out.alloc o1).alloc o2).1 0).trans rfl
      by_cases h1 : ep < o.ep
      · go_enter Try.func13, Try.ntmps13
        go_wp2_with fail
        go_region
        all_goals go_wp2
        go_ret3
        unfold checkT at hr
        rw [if_neg (Int.not_le.mpr h0), hf] at hr
        simp only [if_pos h1] at hr
        subst hr
        exact ⟨rfl, by (repeat (first | exact Below.refl _ _ | assumption | refine below_drew ?_ | refine below_alloc ?_ _ | refine pw_below_drewN ?_ _))⟩
      by_cases h2 : ep > o.ep
      · go_enter Try.func13, Try.ntmps13
        go_wp2_with fail
        go_region
        all_goals go_wp2
        · go_ret3
          rename_i hs
          unfold checkT at hr
          rw [if_neg (Int.not_le.mpr h0), hf] at hr
          have hs' : seq ≠ 0 := by simpa using hs
          simp only [if_neg (Int.not_lt.mpr h1), if_pos h2, if_pos hs'] at hr
          subst hr
          exact ⟨rfl, by (repeat (first | exact Below.refl _ _ | assumption | refine below_drew ?_ | refine below_alloc ?_ _ | refine pw_below_drewN ?_ _))⟩
        · go_ret3
          rename_i hs
          unfold checkT at hr
          rw [if_neg (Int.not_le.mpr h0), hf] at hr
          have hs' : ¬ seq ≠ 0 := by simpa using hs
          simp only [if_neg (Int.not_lt.mpr h1), if_pos h2, if_neg hs'] at hr
          subst hr
          exact ⟨rfl, by (repeat (first | exact Below.refl _ _ | assumption | refine below_drew ?_ | refine below_alloc ?_ _ | refine pw_below_drewN ?_ _))⟩
      · go_enter Try.func13, Try.ntmps13
        go_wp2_with fail
        go_region
        go_wp2_with fail
        generalize hW : ((w.alloc (Obj.cells #[Value.int IntKind.i64 base, Value.int IntKind.i64 last, Value.int IntKind.i64 p, Value.int IntKind.i64 ep, Value.int IntKind.i64 seq, Value.slice A n c] 28)).alloc (Obj.cells #[Value.int IntKind.i64 o.ep, Value.slice A1 o.l.length c1] 93)).drew = W2
        have hB2 : Below w.heap.size w W2 := by rw [← hW]; (repeat (first | exact Below.refl _ _ | assumption | refine below_drew ?_ | refine below_alloc ?_ _ | refine pw_below_drewN ?_ _))
        have b0 : W2.heap[w.heap.size]? = some (Obj.cells #[Value.int IntKind.i64 base, Value.int IntKind.i64 last, Value.int IntKind.i64 p, Value.int IntKind.i64 ep, Value.int IntKind.i64 seq, Value.slice A n c] 28) := by rw [← hW]; exact two_a _ _ _
        have b1 : W2.heap[w.heap.size + 1]? = some (Obj.cells #[Value.int IntKind.i64 o.ep, Value.slice A1 o.l.length c1] 93) := by rw [← hW]; exact two_b _ _ _
        clear hW
        have k4 : W2.cell? ⟨w.heap.size, 4, none⟩ = some (.int .i64 seq) := (blk_cell b0 4).trans rfl
        have k5 : W2.cell? ⟨w.heap.size, 5, none⟩ = some (.slice A n c) := (blk_cell b0 5).trans rfl
        have m0 : W2.cell? ⟨w.heap.size + 1, 0, none⟩ = some (.int .i64 o.ep) := (blk_cell b1 0).trans rfl
        have m1 : W2.cell? ⟨w.heap.size + 1, 1, none⟩ = some (.slice A1 o.l.length c1) := (blk_cell b1 1).trans rfl
        have HB2 := Aside0.mk hB2
        clear hB2
        obtain ⟨nx, hnx⟩ : ∃ x, nextO o = x := ⟨_, rfl⟩
        have hcall := fun (w' : World) (hw' : Below w.heap.size w w') => next_calls o.ep A1 c1 o.l w' (Kd.F_now (Kd.F_below HF.out hw')) hc1 hne hlen
        rw [show nextO ⟨o.ep, o.l⟩ = nx from hnx] at hcall
        have hBd := below_drew HB2.out
        go_region_held3 (fun w' => w'.cell? ⟨w.heap.size, 4, none⟩ = some (.int .i64 seq) ∧ w'.cell? ⟨w.heap.size + 1, 0, none⟩ = some (.int .i64 o.ep) ∧ w'.cell? ⟨w.heap.size + 1, 1, none⟩ = some (.slice A1 o.l.length c1))
          (first | exact ⟨k4, m0, m1⟩ | exact ⟨(hw1.cell (p := ⟨w.heap.size, 4, none⟩) (blk_lt b0)).trans k4, (hw1.cell (p := ⟨w.heap.size + 1, 0, none⟩) (blk_lt b1)).trans m0, (hw1.cell (p := ⟨w.heap.size + 1, 1, none⟩) (blk_lt b1)).trans m1⟩)
          (first | (go_at_call 36; refine (hcall _ hBd).mono ?_; rintro e1 w1 ⟨rfl, hw1⟩))
        clear hcall hBd
        have k4' : w1.cell? ⟨w.heap.size, 4, none⟩ = some (.int .i64 seq) := (hw1.cell (p := ⟨w.heap.size, 4, none⟩) (blk_lt b0)).trans k4
        have k5' : w1.cell? ⟨w.heap.size, 5, none⟩ = some (.slice A n c) := (hw1.cell (p := ⟨w.heap.size, 5, none⟩) (blk_lt b0)).trans k5
        have m0' : w1.cell? ⟨w.heap.size + 1, 0, none⟩ = some (.int .i64 o.ep) := (hw1.cell (p := ⟨w.heap.size + 1, 0, none⟩) (blk_lt b1)).trans m0
        have m1' : w1.cell? ⟨w.heap.size + 1, 1, none⟩ = some (.slice A1 o.l.length c1) := (hw1.cell (p := ⟨w.heap.size + 1, 1, none⟩) (blk_lt b1)).trans m1
        have hB3 := Aside0.mk ((below_drew HB2.out).trans (hw1.mono HB2.out.size))
        have hS3 := Aside0.mk (Nat.lt_of_lt_of_le (blk_lt b1) hw1.size)
        clear hw1 k4 k5 m0 m1 b0 b1 HB2 hl cg2
        clear W2
        by_cases hs : seq = nx
        · go_wp2_with fail
          go_ret3
          unfold checkT at hr
          rw [if_neg (Int.not_le.mpr h0), hf] at hr
          simp only [if_neg (Int.not_lt.mpr h1), if_neg (Int.not_lt.mpr h2), hnx, if_pos hs] at hr
          subst hr
          exact ⟨rfl, hB3.out⟩
        · have hs1 := Aside0.mk hs
          have hsB : (seq == nx) = false := by simpa using hs
          clear hs
          go_wp2_with fail
          have hk : ((-1 : Int) + 1) = 0 := rfl
          go_loopw [58] (fun b wr => CL w1 o.l seq n b wr) (fun b _ => o.l.length - (intOf b).toNat)
          case atStart => exact ⟨0, rfl, Nat.zero_le _, rfl, Below.refl _ _⟩
          case round =>
            obtain ⟨i, rfl, hi, hW, hB⟩ := hrel
            have HB := Aside0.mk hB
            have HW := Aside0.mk hW
            clear hB hW
            have q4 : wr.cell? ⟨w.heap.size, 4, none⟩ = some (.int .i64 seq) := (HB.out.cell (p := ⟨w.heap.size, 4, none⟩) (World.block_lt_of_cell? _ _ k4')).trans k4'
            have q5 : wr.cell? ⟨w.heap.size, 5, none⟩ = some (.slice A n c) := (HB.out.cell (p := ⟨w.heap.size, 5, none⟩) (World.block_lt_of_cell? _ _ k5')).trans k5'
            have HK4 := Aside0.mk k4'
            have HK5 := Aside0.mk k5'
            have HM0 := Aside0.mk m0'
            have HM1 := Aside0.mk m1'
            clear k4' k5' m0' m1'
            by_cases hlt : i < o.l.length
            · obtain ⟨ad, e1, hx0, hx1, hx2⟩ := at_T97 (Kd.F_now (Kd.F_below HF.out (hB3.out.trans (HB.out.mono hB3.out.size)))) (i : Int) (by omega) (by omega)
              subst e1
              simp only [Int.toNat_natCast] at hx0 hx1 hx2
              have hrd : rd_T97 o.l (i : Int) = o.l[i] := by unfold rd_T97; simp [List.getD_eq_getElem?_getD, hlt]
              rw [hrd] at hx0 hx1 hx2
              have HD : Aside0 (o.l.take (i + 1) = o.l.take i ++ [o.l[i]]) := ⟨List.take_succ_eq_append_getElem hlt⟩
              have HG : Aside0 (o.l[i] ∈ o.l.drop i ∧ o.l.drop i = o.l[i] :: o.l.drop (i + 1)) := ⟨by rw [List.drop_eq_getElem_cons hlt]; exact List.mem_cons_self, List.drop_eq_getElem_cons hlt⟩
              generalize o.l[i] = x at *
              have q4a : ∀ o : Obj, (wr.alloc o).cell? ⟨w.heap.size, 4, none⟩ = some (.int .i64 seq) := fun ob => ((below_alloc (Below.refl _ _) ob).cell (p := ⟨w.heap.size, 4, none⟩) (World.block_lt_of_cell? _ _ q4)).trans q4
              have q5a : ∀ o : Obj, (wr.alloc o).cell? ⟨w.heap.size, 5, none⟩ = some (.slice A n c) := fun ob => ((below_alloc (Below.refl _ _) ob).cell (p := ⟨w.heap.size, 5, none⟩) (World.block_lt_of_cell? _ _ q5)).trans q5
              by_cases a1 : x.f0 = seq
              · by_cases a2 : x.f1 = (n : Int)
                · go_wp2_with fail
                  go_ret3
                  unfold checkT at hr
                  rw [if_neg (Int.not_le.mpr h0), hf] at hr
                  simp only [if_neg (Int.not_lt.mpr h1), if_neg (Int.not_lt.mpr h2), hnx, if_neg hs1.out] at hr
                  have hfd : o.l.find? (fun x => x.f0 == seq && x.f1 == (n : Int)) = some x := by
                    rw [← List.take_append_drop i o.l, List.find?_append, HW.out, HG.out.2]
                    simp [a1, a2]
                  rw [hfd] at hr
                  subst hr
                  exact ⟨rfl, (hB3.out.trans (HB.out.mono hB3.out.size)).trans (below_alloc (Below.refl _ _) _ |>.mono (hB3.out.trans (HB.out.mono hB3.out.size)).size)⟩
                · have a2B : (x.f1 == (n : Int)) = false := by simpa using a2
                  go_wp2_with fail
                  go_roundw
                  case rel =>
                    refine ⟨i + 1, by go_num, by omega, ?_, by have := HB.out; (repeat (first | exact Below.refl _ _ | assumption | refine below_drew ?_ | refine below_alloc ?_ _ | refine pw_below_drewN ?_ _))⟩
                    rw [HD.out, List.find?_append, HW.out]
                    simp [a2]
                  case measure => exact meas _ _ hlt
              · have a1B : (x.f0 == seq) = false := by simpa using a1
                go_wp2_with fail
                go_roundw
                case rel =>
                  refine ⟨i + 1, by go_num, by omega, ?_, by have := HB.out; (repeat (first | exact Below.refl _ _ | assumption | refine below_drew ?_ | refine below_alloc ?_ _ | refine pw_below_drewN ?_ _))⟩
                  rw [HD.out, List.find?_append, HW.out]
                  simp [a1]
                case measure => exact meas _ _ hlt
            · go_wp2_with fail
              have hfd : o.l.find? (fun x => x.f0 == seq && x.f1 == (n : Int)) = none := by
                have := HW.out
                rwa [List.take_of_length_le (by omega)] at this
              have hB4 := Aside0.mk (hB3.out.trans (HB.out.mono hB3.out.size))
              have m0 : wr.cell? ⟨w.heap.size + 1, 0, none⟩ = some (.int .i64 o.ep) := (HB.out.cell (p := ⟨w.heap.size + 1, 0, none⟩) (World.block_lt_of_cell? _ _ HM0.out)).trans HM0.out
              have m1 : wr.cell? ⟨w.heap.size + 1, 1, none⟩ = some (.slice A1 o.l.length c1) := (HB.out.cell (p := ⟨w.heap.size + 1, 1, none⟩) (World.block_lt_of_cell? _ _ HM1.out)).trans HM1.out
              have hcall := fun (w' : World) (hw' : Below w.heap.size w w') => next_calls o.ep A1 c1 o.l w' (Kd.F_now (Kd.F_below HF.out hw')) hc1 hne hlen
              rw [show nextO ⟨o.ep, o.l⟩ = nx from hnx] at hcall
              have hBd := below_drew hB4.out
              go_region_held3 (fun w' => w'.cell? ⟨w.heap.size, 4, none⟩ = some (.int .i64 seq) ∧ w'.cell? ⟨w.heap.size + 1, 0, none⟩ = some (.int .i64 o.ep) ∧ w'.cell? ⟨w.heap.size + 1, 1, none⟩ = some (.slice A1 o.l.length c1))
                (first | exact ⟨q4, m0, m1⟩ | exact ⟨(hw1.cell (p := ⟨w.heap.size, 4, none⟩) (World.block_lt_of_cell? _ _ q4)).trans q4, (hw1.cell (p := ⟨w.heap.size + 1, 0, none⟩) (World.block_lt_of_cell? _ _ m0)).trans m0, (hw1.cell (p := ⟨w.heap.size + 1, 1, none⟩) (World.block_lt_of_cell? _ _ m1)).trans m1⟩)
                (first | (go_at_call 36; refine (hcall _ hBd).mono ?_; rintro e1 w2 ⟨rfl, hw1⟩))
              have hB5 := Aside0.mk ((below_drew hB4.out).trans (hw1.mono hB4.out.size))
              clear hw1 hcall hBd
              unfold checkT at hr
              rw [if_neg (Int.not_le.mpr h0), hf] at hr
              simp only [if_neg (Int.not_lt.mpr h1), if_neg (Int.not_lt.mpr h2), hnx, if_neg hs1.out] at hr
              rw [hfd] at hr
              by_cases a3 : seq < nx
              · go_wp2_with fail
                go_ret3
                simp only [if_pos a3] at hr
                subst hr
                exact ⟨rfl, hB5.out⟩
              · go_wp2_with fail
                go_ret3
                simp only [if_neg (Int.not_lt.mpr a3)] at hr
                subst hr
                exact ⟨rfl, hB5.out⟩
end Go.Proofs.Ytmdgkjjdcfpjiaa.PT
