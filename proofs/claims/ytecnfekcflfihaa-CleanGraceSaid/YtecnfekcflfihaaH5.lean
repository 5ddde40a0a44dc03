/- The H layer, 5: operations that make or write memory. -/
import Derived.Test.YtecnfekcflfihaaH4
import Derived.Laws.IdiomCopy
namespace Go.Proofs.Ytecnfekcflfihaa.H
open Go.RowKit Go.MapKept
set_option linter.unusedVariables false
set_option linter.unusedSimpArgs false
variable {P : Program} {m : M} {s : HS} {w : World}

def hNew (s : HS) (ob : HObj) (mk : Nat → HV) (K : HV → HS → Prop) : Prop := ∀ id, s id = none → K (mk id) (s.set id ob)
def putCells (cs : List HV) (off : Nat) (vs : List HV) : List HV := cs.take off ++ vs ++ cs.drop (off + vs.length)
def hStore (s : HS) (p v : HV) (n : Nat) (K : HS → Prop) : Prop :=
  match p, hcells v with
  | .ptr id off, some vs => (match s id with
    | some (.cells cs) => vs.length = n ∧ off + n ≤ cs.length ∧ (∀ x ∈ vs, hone x = true) ∧ K (s.set id (.cells (putCells cs off vs)))
    | _ => False)
  | _, _ => False
def llen : HV → Nat
  | .list _ n _ _ => n
  | .view _ _ _ n _ => n
  | .lit (.string b) => b.size
  | _ => 0
def room (n bytes : Nat) : Prop := n * bytes ≤ 140737488355328 ∧ n ≤ 9223372036854775807
def hAppend (s : HS) (sz bytes : Nat) (b x : HV) (K : HV → HS → Prop) : Prop :=
  match lcells s sz x with
  | none => False
  | some xs =>
    match b with
    | .lit v => if isNilS v then (if llen x = 0 then K b s else room (llen x) bytes ∧ hNew s (.cells xs) (fun id => .view id 0 sz (llen x) false) K) else False
    | .list z n cs full => z = sz ∧ full = true ∧ (if llen x = 0 then K b s else room (n + llen x) bytes ∧ hNew s (.cells (cs ++ xs)) (fun id => .view id 0 sz (n + llen x) false) K)
    | .view i off z n full => z = sz ∧ (match s i with
      | some (.cells cs) => off + n * sz ≤ cs.length ∧
        (if full then (if llen x = 0 then K b s else room (n + llen x) bytes ∧ hNew s (.cells ((cs.drop off).take (n * sz) ++ xs)) (fun id => .view id 0 sz (n + llen x) false) K)
        else off + n * sz = cs.length ∧ room (n + llen x) bytes ∧ ∀ id, s id = none → K (.view id 0 sz (n + llen x) false) ((s.del i).set id (.cells (cs.drop off ++ xs))))
      | _ => False)
    | _ => False

/-- What an effect comes to. -/
def Did (m : M) (K : HV → HS → Prop) (r : Result Value) : Prop :=
  ∃ cv w' v s' m', r = .ok cv w' ∧ M.le m m' ∧ Rel m' s' w' ∧ Rep m' v cv ∧ K v s'

theorem le_set {s' s : HS} (h : HS.le s' s) (id : Nat) (ob : HObj) : HS.le (s'.set id ob) (s.set id ob) := by
  intro k o hk
  simp only [HS.set] at hk ⊢
  split
  · rename_i e; rw [if_pos e] at hk; exact hk
  · rename_i e; rw [if_neg e] at hk; exact h k o hk
theorem new_ok' {s' : HS} {cs : List HV} {c : Array Value} {t : TypeId} {mk : Nat → HV} {K : HV → HS → Prop} (hR : Rel m s w) (hss : HS.le s' s) (ho : Ones cs) (hle : cs.length ≤ c.size)
    (hr : ∀ j x, cs[j]? = some x → Rep m x (c.getD j undef)) (h : ∀ id, s id = none → K (mk id) (s'.set id (.cells cs))) :
    ∃ id m', M.le m m' ∧ m'.loc id = some ⟨w.heap.size, 0, c.size⟩ ∧ Rel m' (s'.set id (.cells cs)) (w.alloc (.cells c t)) ∧ K (mk id) (s'.set id (.cells cs)) := by
  obtain ⟨id, h1, h2, h3, h4⟩ := hR.new (.cells c t) c.size
  have hm : M.le m { m with loc := fun k => if k = id then some ⟨w.heap.size, 0, c.size⟩ else m.loc k } := by
    refine ⟨rfl, fun _ _ _ x => x, fun k l hl => ?_, rfl, fun k hr => ?_⟩
    · show (if k = id then _ else m.loc k) = some l
      rw [if_neg (fun e => by rw [e, h2] at hl; cases hl)]; exact hl
    · show (if k = id then _ else m.loc k) = m.loc k
      rw [if_neg (fun e => by rw [e, h3] at hr; cases hr)]
  obtain ⟨g1, g2⟩ := h4 (.cells cs) ⟨ho, c, t, (0, 0), (heap_alloc w _).1, rfl, by show 0 + cs.length ≤ c.size; omega, .inl rfl, fun j x hj => by rw [Nat.zero_add]; exact (hr j x hj).mono hm⟩
  exact ⟨id, _, hm, by simp, g2.weaken (le_set hss id _), h id h1⟩
theorem new_ok {cs : List HV} {c : Array Value} {t : TypeId} {mk : Nat → HV} {K : HV → HS → Prop} (hR : Rel m s w) (ho : Ones cs) (hle : cs.length ≤ c.size)
    (hr : ∀ j x, cs[j]? = some x → Rep m x (c.getD j undef)) (h : hNew s (.cells cs) mk K) :
    ∃ id m', M.le m m' ∧ m'.loc id = some ⟨w.heap.size, 0, c.size⟩ ∧ Rel m' (s.set id (.cells cs)) (w.alloc (.cells c t)) ∧ K (mk id) (s.set id (.cells cs)) :=
  new_ok' hR (fun _ _ h => h) ho hle hr h
theorem reps_getD {cs : List HV} {vs : List Value} (h : Reps m cs vs) (rest : Array Value) : ∀ j x, cs[j]? = some x → Rep m x ((vs.toArray ++ rest).getD j undef) := by
  intro j x hj
  have hlt : j < vs.length := by rw [h.2.1]; exact (List.getElem?_eq_some_iff.1 hj).1
  have h1 := h.2.2 j x hj
  have : (vs.toArray ++ rest).getD j undef = vs.getD j undef := by
    have h2 : j < vs.length + rest.size := by omega
    simp [Array.getD, List.getD, hlt, h2, Array.getElem_append]
  rw [this]; exact h1
def hBox (s : HS) (v : HV) (K : HV → HS → Prop) : Prop := match hcells v with | some cs => hNew s (.cells cs) (fun id => .ptr id 0) K | none => False
theorem hcells_ones {v : HV} {cs : List HV} {cv : Value} (h : hcells v = some cs) (hv : Rep m v cv) : Ones cs := (hv.cells h).1
theorem hBox_ok {t : TypeId} {v : HV} {cv : Value} {K : HV → HS → Prop} (h : hBox s v K) (hR : Rel m s w) (hv : Rep m v cv) : Did m K ((Instr.box t cv).run P w) := by
  unfold hBox at h
  split at h
  · rename_i cs hc
    have hr := hv.cells hc
    obtain ⟨id, m', h1, h2, h3, h4⟩ := new_ok (c := cv.cells) (t := t) hR hr.1 (by rw [← hr.2.1]; simp) (fun j x hj => by have := reps_getD hr #[] j x hj; simpa using this) h
    exact ⟨_, _, _, _, m', rfl, h1, h3, .ptr id 0 _ h2, h4⟩
  · exact h.elim
theorem hAlloc_ok {t : TypeId} {z : Value} {K : HV → HS → Prop} (hz : tZero P t = some z) (h : hBox s (.lit z) K) (hR : Rel m s w) : Did m K ((Instr.alloc t true (.tuple #[])).run P w) := by
  obtain ⟨cv, w', v, s', m', h1, h2⟩ := hBox_ok (P := P) (t := t) h hR (.lit z)
  refine ⟨cv, w', v, s', m', ?_, h2⟩
  unfold Instr.alloc
  rw [rb (tZero_run hz)]
  exact h1

theorem setCells_at (b : Nat) : ∀ (vs : List Value) (o : Nat) (w : World) (c : Array Value) (t : TypeId) (fr : Nat × Nat), w.heap[b]? = some (.cells c t fr) → o + vs.length ≤ c.size →
    (∃ c', (w.setCells b o vs).heap[b]? = some (.cells c' t fr) ∧ c'.size = c.size ∧ ∀ k, c'.getD k undef = if o ≤ k ∧ k < o + vs.length then vs.getD (k - o) undef else c.getD k undef) ∧
    (∀ b', b' ≠ b → (w.setCells b o vs).heap[b']? = w.heap[b']?) ∧ (w.setCells b o vs).os = w.os ∧ (w.setCells b o vs).tape = w.tape ∧ (w.setCells b o vs).output = w.output ∧ (w.setCells b o vs).heap.size = w.heap.size
  | [], o, w, c, t, fr, hb, hle => ⟨⟨c, hb, rfl, fun k => by rw [if_neg (by simp only [List.length_nil]; omega)]⟩, fun _ _ => rfl, rfl, rfl, rfl, rfl⟩
  | v :: vs, o, w, c, t, fr, hb, hle => by
    have hlt : b < w.heap.size := (Array.getElem?_eq_some_iff.1 hb).1
    have hle' : o < c.size := by simp at hle; omega
    have hb1 : (w.setCell ⟨b, o, none⟩ v).heap[b]? = some (.cells (c.setIfInBounds o v) t fr) := by
      simp only [World.setCell, Array.getElem?_modify, if_true, hb, Option.map_some]
      rfl
    obtain ⟨⟨c', h1, h2, h3⟩, h4, h5, h6, h7, h8⟩ := setCells_at b vs (o + 1) (w.setCell ⟨b, o, none⟩ v) _ t fr hb1 (by simp at hle ⊢; omega)
    refine ⟨⟨c', h1, by rw [h2]; simp, fun k => ?_⟩, fun b' hb' => ?_, h5.trans rfl, h6.trans rfl, h7.trans rfl, by rw [show w.setCells b o (v :: vs) = (w.setCell ⟨b, o, none⟩ v).setCells b (o + 1) vs from rfl, h8]; simp [World.setCell]⟩
    · rw [h3 k]
      by_cases hk : k = o
      · subst hk
        rw [if_neg (by omega), if_pos (by simp)]
        simp [Array.getD, hle', List.getD]
      · by_cases hr : o + 1 ≤ k ∧ k < o + 1 + vs.length
        · rw [if_pos hr, if_pos (by simp; omega)]
          have : k - o = (k - (o + 1)) + 1 := by omega
          rw [this]; simp [List.getD]
        · rw [if_neg hr, if_neg (by simp; omega)]
          simp only [Array.getD_eq_getD_getElem?]
          rw [Array.getElem?_setIfInBounds_ne (fun e => hk e.symm)]
    · exact (h4 b' hb').trans (Below.heap_setCell w ⟨b, o, none⟩ v b' hb')
theorem storeCells_run {b o : Nat} {vs : List Value} {c : Array Value} {t : TypeId} {fr : Nat × Nat} (hb : w.heap[b]? = some (.cells c t fr)) (hle : o + vs.length ≤ c.size) (hfr : fr.2 ≤ fr.1 ∨ c.size ≤ fr.1) (h1 : ∀ v ∈ vs, v.oneCell' = true) :
    (storeCells ⟨b, o, none⟩ vs).run P w = .ok () (w.setCells b o vs) := by
  have := run_storeCells_cells (P := P) b o vs 0 w (fun j hj => by
    have : o + 0 + j < c.size := by omega
    simp [World.cell?, hb]; omega) (fun j hj => by
    have : o + 0 + j < c.size := by omega
    simp only [World.frozen?, hb]
    rcases hfr with h | h <;> simp <;> omega) h1
  simpa using this
/-- Cells of an object are written. -/
theorem write_ok {id off : Nat} {cs vs : List HV} {cvs : List Value} {l : Loc} (hR : Rel m s w) (hs : s id = some (.cells cs)) (hl : m.loc id = some l) (hle : off ≤ cs.length) (hlim : l.base + off + vs.length ≤ l.lim) (hr : Reps m vs cvs) (id' : Nat)
    (hid' : id' = id) : (storeCells ⟨l.b, l.base + off, none⟩ cvs).run P w = .ok () (w.setCells l.b (l.base + off) cvs) ∧
      Rel m (s.set id (.cells (putCells cs off vs))) (w.setCells l.b (l.base + off) cvs) := by
  obtain ⟨h0, c, t, fr, h1, h2, h3, h4, h5⟩ := hR.objs _ _ _ hs hl
  have hlen := hr.2.1
  refine ⟨storeCells_run h1 (by omega) (by rw [h2]; exact h4.imp (fun h => Nat.le_of_eq h.symm) (fun h => h)) hr.one, ?_⟩
  obtain ⟨⟨c', g1, g2, g3⟩, g4, g5, g6, g7, g8⟩ := setCells_at l.b cvs (l.base + off) w c t fr h1 (by omega)
  refine hR.upd hs hl g4 g5 g6 g7 (by rw [g8]; exact Nat.le_refl _) ⟨?_, c', t, fr, g1, by rw [g2]; exact h2, ?_, h4, fun j x hj => ?_⟩
  · intro x hx
    simp only [putCells, List.mem_append] at hx
    rcases hx with (hx | hx) | hx
    · exact h0 x (List.mem_of_mem_take hx)
    · exact hr.1 x hx
    · exact h0 x (List.mem_of_mem_drop hx)
  · simp only [putCells, List.length_append, List.length_take, List.length_drop]; omega
  · rw [g3]
    by_cases h6 : j < off
    · rw [if_neg (by omega)]
      have : (putCells cs off vs)[j]? = cs[j]? := by
        simp only [putCells]
        rw [List.append_assoc, List.getElem?_append_left (by simp; omega), List.getElem?_take, if_pos h6]
      rw [this] at hj
      exact h5 j x hj
    · by_cases h7 : j < off + vs.length
      · rw [if_pos (by omega)]
        have : (putCells cs off vs)[j]? = vs[j - off]? := by
          simp only [putCells]
          rw [List.append_assoc, List.getElem?_append_right (by simp; omega), List.getElem?_append_left (by simp; omega)]
          congr 1; simp; omega
        rw [this] at hj
        have := hr.2.2 _ _ hj
        rw [show l.base + j - (l.base + off) = j - off from by omega]
        exact this
      · rw [if_neg (by omega)]
        have : (putCells cs off vs)[j]? = cs[j]? := by
          simp only [putCells]
          rw [List.append_assoc, List.getElem?_append_right (by simp; omega), List.getElem?_append_right (by simp; omega), List.getElem?_drop]
          congr 1; simp; omega
        rw [this] at hj
        exact h5 j x hj
theorem hStore_ok {t n : Nat} {p v : HV} {cp cv : Value} {K : HS → Prop} (hn : tSize P t = some n) (h : hStore s p v n K) (hR : Rel m s w) (hp : Rep m p cp) (hv : Rep m v cv) :
    ∃ w' s', (Instr.storeAt t cp cv).run P w = .ok () w' ∧ Rel m s' w' ∧ K s' := by
  unfold hStore at h
  split at h
  · rename_i id off vs hc
    split at h
    · rename_i cs hs
      obtain ⟨h1, h2, h3, h4⟩ := h
      cases hp with
      | ptr _ _ l hl =>
      have hr := hv.cells hc
      obtain ⟨g0, c, t', fr, g1, g2, g3, g4, g5⟩ := hR.objs _ _ _ hs hl
      obtain ⟨h5, h6⟩ := write_ok (P := P) hR hs hl (off := off) (by omega) (by omega) hr id rfl
      refine ⟨_, _, ?_, h6, h4⟩
      have hsz := tSize_run (P := P) (w := w) hn
      have hlen : cv.cells.size = n := by have := hr.2.1; simp at this; omega
      show (Instr.sureAddr _ >>= fun a => storeVar t a cv).run P w = _
      rw [rb (show (Instr.sureAddr (.pointer (some ⟨l.b, l.base + off, none⟩))).run P w = .ok ⟨l.b, l.base + off, none⟩ w from rfl)]
      unfold storeVar
      rw [rb hsz]
      simp only [hlen, ne_eq, not_true_eq_false, if_false]
      exact h5
    · exact h.elim
  · exact h.elim

-- append
theorem append_grow {t t2 ty e : TypeId} {i : TypeInfo} {z : Value} {d2 : TypeDesc} (ht : P.underlying t = some (.slice e)) (ht2 : P.underlying t2 = some d2) (hd2 : d2 = .string ∨ ∃ e2, d2 = .slice e2) (hi : P.info? e = some i) (hz : i.zero = some z)
    {base : Option Addr} {sLen sCap n : Nat} {x : Value} {olds news : List Value} (hx : ∀ w : World, (Builtin.lenOf x).run P w = .ok n w)
    (ho : (Builtin.firstCells i.size sLen (.slice base sLen sCap)).run P w.drew = .ok olds.toArray w.drew) (hnw : (Builtin.firstCells i.size n x).run P w.drew = .ok news.toArray w.drew)
    (hg : sCap < sLen + n) (h63 : sLen + n ≤ 9223372036854775807) (hfit : (sLen + n) * i.bytes ≤ 140737488355328) :
    (Builtin.append_ #[t, t2] ty #[.slice base sLen sCap, x]).run P w =
      .ok (.slice (some ⟨w.heap.size, 0, none⟩) (sLen + n) (grownCap w (sLen + n) sCap e))
        (w.drew.alloc (.cells (olds.toArray ++ news.toArray ++ Builtin.zeroCells z.cells (grownCap w (sLen + n) sCap e - (sLen + n))) e)) := by
  have hn : ¬ (sLen + n ≤ sCap) := by omega
  have hx' := hx w
  have hf := growslice_fits (old := sCap) (need := sLen + n) (bytes := i.bytes) hg hfit
  have h48' : ¬ (281474976710656 < Builtin.nextslicecap (sLen + n) sCap * i.bytes) := by omega
  have h63' : ¬ (9223372036854775807 < ((sLen : Int) + (n : Int))) := by omega
  rcases hd2 with rfl | ⟨e2, rfl⟩
  all_goals
    simp [Builtin.append_, run_underlying ht, run_underlying ht2, sizeOf, typeInfo, zeroValue, hi, hz, hx', hn, h48', h63', Question.forced, ho, hnw, newRow, grownCap]
    congr 2
    apply Array.ext'
    simp [List.append_assoc]
theorem append_room {t t2 ty e : TypeId} {i : TypeInfo} {d2 : TypeDesc} (ht : P.underlying t = some (.slice e)) (ht2 : P.underlying t2 = some d2) (hd2 : d2 = .string ∨ ∃ e2, d2 = .slice e2) (hi : P.info? e = some i)
    {b o sLen sCap n : Nat} {x : Value} {news : List Value} {w' : World} (hx : ∀ w : World, (Builtin.lenOf x).run P w = .ok n w)
    (hnw : (Builtin.firstCells i.size n x).run P w = .ok news.toArray w) (hg : sLen + n ≤ sCap) (hst : (storeCells ⟨b, o + sLen * i.size, none⟩ news).run P w = .ok () w') :
    (Builtin.append_ #[t, t2] ty #[.slice (some ⟨b, o, none⟩) sLen sCap, x]).run P w = .ok (.slice (some ⟨b, o, none⟩) (sLen + n) sCap) w' := by
  have hx' := hx w
  rcases hd2 with rfl | ⟨e2, rfl⟩
  all_goals
    simp [Builtin.append_, run_underlying ht, run_underlying ht2, sizeOf, typeInfo, hi, hx', hg, hnw, add_loc, hst]
theorem append_none {t t2 ty e : TypeId} {i : TypeInfo} {d2 : TypeDesc} (ht : P.underlying t = some (.slice e)) (ht2 : P.underlying t2 = some d2) (hd2 : d2 = .string ∨ ∃ e2, d2 = .slice e2) (hi : P.info? e = some i)
    {a : Option Addr} {sLen sCap : Nat} {x : Value} (hx : ∀ w : World, (Builtin.lenOf x).run P w = .ok 0 w)
    (hnw : (Builtin.firstCells i.size 0 x).run P w = .ok #[] w) (hg : sLen ≤ sCap) :
    (Builtin.append_ #[t, t2] ty #[.slice a sLen sCap, x]).run P w = .ok (.slice a sLen sCap) w := by
  have hx' := hx w
  rcases hd2 with rfl | ⟨e2, rfl⟩
  all_goals
    cases a <;> simp [Builtin.append_, run_underlying ht, run_underlying ht2, sizeOf, typeInfo, hi, hx', hg, hnw, storeCells]
theorem firstCells_of {sz n cap : Nat} {a : Option Addr} {vs : List Value} (hlen : vs.length = n * sz) (hw : n = 0 ∨ ∃ b o, a = some ⟨b, o, none⟩ ∧ ∀ j u, vs[j]? = some u → w.cell? ⟨b, o + j, none⟩ = some u) :
    (Builtin.firstCells sz n (.slice a n cap)).run P w = .ok vs.toArray w := by
  cases a with
  | none =>
    have hz : n = 0 := by rcases hw with h | ⟨b, o, h, -⟩; exact h; cases h
    subst hz
    have : vs = [] := by simpa using hlen
    subst this
    rfl
  | some ad =>
    show (loadCells ad (n * sz)).run P w = _
    rcases hw with rfl | ⟨b, o, h, hc⟩
    · have : vs = [] := by simpa using hlen
      subst this
      simp [loadCells, loadCellsFrom]
    · cases h
      exact loadCells_list hlen hc
/-- What is appended: its length, its cells, in every later world that has the same cells. -/
theorem src_ok {sz : Nat} {x : HV} {xs : List HV} {cx : Value} (h : lcells s sz x = some xs) (hR : Rel m s w) (hx : Rep m x cx) :
    ∃ vs, Reps m xs vs ∧ (∀ w : World, (Builtin.lenOf cx).run P w = .ok (llen x) w) ∧ vs.length = llen x * sz ∧ (Builtin.firstCells sz (llen x) cx).run P w = .ok vs.toArray w := by
  by_cases hstr : ∃ b, x = .lit (.string b)
  · obtain ⟨b, rfl⟩ := hstr
    cases hx
    simp only [lcells, litCells] at h
    split at h
    rotate_left
    · cases h
    rename_i h1
    subst h1
    simp only [Option.some.injEq] at h
    have e : xs = (b.data.toList.map fun c => (Value.int .u8 c.toNat)).map .lit := by rw [← h, List.map_map]; rfl
    refine ⟨b.data.toList.map fun c => .int .u8 c.toNat, ?_, fun w => rfl, by simp [llen], ?_⟩
    · rw [e]; exact reps_lits m (List.all_eq_true.2 (fun v hv => by obtain ⟨c, -, rfl⟩ := List.mem_map.1 hv; rfl))
    · simp only [Builtin.firstCells, llen]
      have : (b.extract 0 b.size).data = b.data := by simp
      rw [this]
      show Result.ok _ w = _
      congr 1
      apply Array.ext'
      simp
  · have hns : ∀ b, x ≠ .lit (.string b) := fun b hb => hstr ⟨b, hb⟩
    obtain ⟨a, n, cap, vs, rfl, hr, hlen, hcap, hw⟩ := lcells_ok h hR hx hns
    have hn : llen x = n := by
      cases hx <;> first | rfl | (simp [lcells] at h; done) | skip
      · simp only [lcells] at h
        unfold litCells at h
        split at h <;> simp_all [llen]
    refine ⟨vs, hr, fun w => by rw [hn]; rfl, by rw [hn]; exact hlen, ?_⟩
    rw [hn]
    exact firstCells_of hlen hw
/-- An object under another number, from one of its cells on. -/
theorem Rel.rename {i off : Nat} {cs : List HV} {l : Loc} (hR : Rel m s w) (hs : s i = some (.cells cs)) (hl : m.loc i = some l) (hoff : off ≤ cs.length) :
    ∃ id m', s id = none ∧ M.le m m' ∧ m'.loc id = some ⟨l.b, l.base + off, l.lim⟩ ∧ Rel m' ((s.del i).set id (.cells (cs.drop off))) w := by
  obtain ⟨N, hN⟩ := hR.fin
  obtain ⟨n1, n2, n3⟩ := hN N (Nat.le_refl _)
  have hne : i ≠ N := fun e => by rw [e, n1] at hs; cases hs
  have hm : M.le m { m with loc := fun k => if k = N then some ⟨l.b, l.base + off, l.lim⟩ else m.loc k } := by
    refine ⟨rfl, fun _ _ _ x => x, fun k l hl => ?_, rfl, fun k hr => ?_⟩
    · show (if k = N then _ else m.loc k) = some l
      rw [if_neg (fun e => by rw [e, n2] at hl; cases hl)]; exact hl
    · show (if k = N then _ else m.loc k) = m.loc k
      rw [if_neg (fun e => by rw [e, n3] at hr; cases hr)]
  refine ⟨N, _, n1, hm, by simp, ?_⟩
  have old : ∀ k ob, ((s.del i).set N (.cells (cs.drop off))) k = some ob → (k = N ∧ ob = .cells (cs.drop off)) ∨ (k ≠ N ∧ k ≠ i ∧ s k = some ob) := by
    intro k ob h
    by_cases hk : k = N
    · subst hk; simp only [HS.set, if_true] at h; cases h; exact .inl ⟨rfl, rfl⟩
    · simp only [HS.set, if_neg hk, HS.del] at h
      by_cases hi : k = i
      · simp [hi] at h
      · rw [if_neg hi] at h; exact .inr ⟨hk, hi, h⟩
  refine ⟨hR.below, hR.com, ?_, ?_, ?_, ?_⟩
  · intro k ob l' hk hl'
    rcases old k ob hk with ⟨rfl, rfl⟩ | ⟨h1, h2, h3⟩
    · simp only [if_true] at hl'; cases hl'
      obtain ⟨h0, c, t, fr, g1, g2, g3, g4, g5⟩ := hR.objs _ _ _ hs hl
      refine ⟨fun x hx => h0 x (List.mem_of_mem_drop hx), c, t, fr, g1, g2, by simp; omega, g4, fun j x hj => ?_⟩
      rw [List.getElem?_drop] at hj
      have := (g5 _ _ hj).mono hm
      rw [show l.base + (off + j) = l.base + off + j from by omega] at this
      exact this
    · simp only [if_neg h1] at hl'
      exact (hR.objs _ _ _ h3 hl').mono hm
  · intro k ob l' hk hl'
    rcases old k ob hk with ⟨rfl, rfl⟩ | ⟨h1, h2, h3⟩
    · simp only [if_true] at hl'; cases hl'
      have := hR.own i _ l hs hl
      exact this
    · simp only [if_neg h1] at hl'
      exact hR.own _ _ _ h3 hl'
  · intro a b oa ob la lb ha hb hla hlb hab
    rcases old a oa ha with ⟨rfl, rfl⟩ | ⟨h1, h2, h3⟩ <;> rcases old b ob hb with ⟨rfl, rfl⟩ | ⟨h4, h5, h6⟩
    · rfl
    · simp only [if_true] at hla; cases hla
      simp only [if_neg h4] at hlb
      exact absurd (hR.inj i b _ ob l lb hs h6 hl hlb hab) (Ne.symm h5)
    · simp only [if_true] at hlb; cases hlb
      simp only [if_neg h1] at hla
      exact absurd (hR.inj a i oa _ la l h3 hs hla hl hab) h2
    · simp only [if_neg h1] at hla
      simp only [if_neg h4] at hlb
      exact hR.inj a b oa ob la lb h3 h6 hla hlb hab
  · refine ⟨N + 1, fun k hk => ?_⟩
    have hkN : k ≠ N := by omega
    obtain ⟨q1, q2, q3⟩ := hN k (by omega)
    refine ⟨?_, by simp only [if_neg hkN]; exact q2, q3⟩
    simp only [HS.set, if_neg hkN, HS.del]
    split
    · rfl
    · exact q1
theorem le_del (s : HS) (i : Nat) : HS.le (s.del i) s := by
  intro k o h
  simp only [HS.del] at h
  split at h
  · cases h
  · exact h
/-- What an append makes in a new block. -/
theorem fresh_view {e : TypeId} {sz n k : Nat} {cs xs : List HV} {olds news : List Value} {z : Value} {cap : Nat} {K : HV → HS → Prop} {s' : HS} (hR : Rel m s w) (hss : HS.le s' s) (hcs : Reps m cs olds) (hxs : Reps m xs news) (hlo : olds.length = n * sz) (hln : news.length = k * sz) (hzs : z.cells.size = sz)
    (hcap : n + k ≤ cap) (h : ∀ id, s id = none → K (.view id 0 sz (n + k) false) (s'.set id (.cells (cs ++ xs)))) :
    ∃ v s' m', M.le m m' ∧ Rel m' s' (w.drew.alloc (.cells (olds.toArray ++ news.toArray ++ Builtin.zeroCells z.cells (cap - (n + k))) e)) ∧ Rep m' v (.slice (some ⟨w.heap.size, 0, none⟩) (n + k) cap) ∧ K v s' := by
  have hboth : Reps m (cs ++ xs) (olds ++ news) := by
    refine ⟨fun x hx => (List.mem_append.1 hx).elim (hcs.1 x) (hxs.1 x), by rw [List.length_append, List.length_append, hcs.2.1, hxs.2.1], fun j x hj => ?_⟩
    by_cases hlt : j < cs.length
    · rw [List.getElem?_append_left hlt] at hj
      have := hcs.2.2 j x hj
      have h2 : (olds ++ news).getD j undef = olds.getD j undef := by simp [List.getD, List.getElem?_append_left (show j < olds.length by rw [hcs.2.1]; exact hlt)]
      rw [h2]; exact this
    · rw [List.getElem?_append_right (by omega)] at hj
      have := hxs.2.2 _ x hj
      have h2 : (olds ++ news).getD j undef = news.getD (j - cs.length) undef := by simp [List.getD, List.getElem?_append_right (show olds.length ≤ j by rw [hcs.2.1]; omega), hcs.2.1]
      rw [h2]; exact this
  have hsize : (olds.toArray ++ news.toArray ++ Builtin.zeroCells z.cells (cap - (n + k))).size = cap * sz := by
    simp only [Array.size_append, List.size_toArray, size_zeroCells, hzs, hlo, hln]
    rw [← Nat.add_mul, ← Nat.add_mul]; congr 1; omega
  have hc : olds.toArray ++ news.toArray ++ Builtin.zeroCells z.cells (cap - (n + k)) = (olds ++ news).toArray ++ Builtin.zeroCells z.cells (cap - (n + k)) := by
    apply Array.ext'; simp
  obtain ⟨id, m', h1, h2, h3, h4⟩ := new_ok' (c := olds.toArray ++ news.toArray ++ Builtin.zeroCells z.cells (cap - (n + k))) (t := e) (mk := fun id => .view id 0 sz (n + k) false) hR.drew hss hboth.1
    (by rw [hsize]; have := hboth.2.1; rw [List.length_append] at this; rw [← this, hlo, hln, ← Nat.add_mul]; exact Nat.mul_le_mul_right _ hcap) (fun j x hj => by rw [hc]; exact reps_getD hboth _ j x hj) h
  rw [hsize] at h2
  exact ⟨_, _, m', h1, h3, .view id 0 sz (n + k) false cap ⟨w.heap.size, 0, cap * sz⟩ h2 hcap (fun h => by cases h) (by simp), h4⟩
theorem hAppend_ok {t t2 ty e : TypeId} {sz bytes : Nat} {z : Value} {d2 : TypeDesc} {b x : HV} {cb cx : Value} {K : HV → HS → Prop} (he : tElem P t = some e) (hn : tSize P e = some sz) (hb : tBytes P e = some bytes) (hz : tZero P e = some z)
    (hzs : z.cells.size = sz) (ht2 : P.underlying t2 = some d2) (hd2 : d2 = .string ∨ ∃ e2, d2 = .slice e2)
    (h : hAppend s sz bytes b x K) (hR : Rel m s w) (hrb : Rep m b cb) (hrx : Rep m x cx) : Did m K ((Builtin.append_ #[t, t2] ty #[cb, cx]).run P w) := by
  have ht := tElem_run he
  obtain ⟨i, hi, rfl, rfl, hiz⟩ : ∃ i, P.info? e = some i ∧ i.size = sz ∧ i.bytes = bytes ∧ i.zero = some z := by
    cases hi : P.info? e with
    | none => simp [tSize, hi] at hn
    | some i => simp [tSize, hi] at hn; simp [tBytes, hi] at hb; simp [tZero, hi] at hz; exact ⟨i, rfl, hn, hb, hz⟩
  unfold hAppend at h
  split at h
  · exact h.elim
  rename_i xs hxs
  obtain ⟨news, hnr, hlx, hnl, hfc⟩ := src_ok (P := P) hxs hR hrx
  obtain ⟨news', hnr', -, hnl', hfc'⟩ := src_ok (P := P) hxs hR.drew hrx
  have same : ∀ {u : Option Addr} {n cap : Nat}, n ≤ cap → llen x = 0 → Rep m b (.slice u n cap) → K b s → Did m K ((Builtin.append_ #[t, t2] ty #[.slice u n cap, cx]).run P w) := by
    intro u n cap hle h0 hrb' hk
    rw [h0] at hlx hnl hfc
    have hnil : news = [] := by simpa using hnl
    subst hnil
    exact ⟨_, _, b, s, m, append_none ht ht2 hd2 hi hlx hfc hle, M.le.refl m, hR, hrb', hk⟩
  have grow : ∀ {u : Option Addr} {n cap : Nat} {cs : List HV} {s' : HS}, HS.le s' s → cap < n + llen x → (∃ olds, Reps m cs olds ∧ olds.length = n * i.size ∧ (Builtin.firstCells i.size n (.slice u n cap)).run P w.drew = .ok olds.toArray w.drew) → room (n + llen x) i.bytes →
      (∀ id, s id = none → K (.view id 0 i.size (n + llen x) false) (s'.set id (.cells (cs ++ xs)))) → Did m K ((Builtin.append_ #[t, t2] ty #[.slice u n cap, cx]).run P w) := by
    intro u n cap cs s' hle hlt ⟨olds, ho, hol, hof⟩ hroom hk
    have hrun := append_grow (ty := ty) ht ht2 hd2 hi hiz hlx hof hfc' hlt hroom.2 hroom.1
    obtain ⟨v, s2, m', h1, h2, h3, h4⟩ := fresh_view (e := e) hR hle ho hnr' hol hnl' hzs (grownCap_ge w (n + llen x) cap e) hk
    exact ⟨_, _, v, s2, m', hrun, h1, h2, h3, h4⟩
  split at h
  · -- nil
    split at h
    rotate_left
    · exact h.elim
    rename_i v0 hnil
    obtain rfl := isNilS_eq hnil
    cases hrb
    split at h
    · rename_i h0
      exact same (Nat.le_refl 0) h0 (.lit _) h
    · rename_i h0
      have := grow (u := none) (n := 0) (cap := 0) (cs := []) (fun _ _ h => h) (by omega) ⟨[], ⟨fun x hx => by simp at hx, rfl, fun j x hj => by simp at hj⟩, by simp, run_firstCells_none w.drew i.size 0 0 0⟩ (by rw [Nat.zero_add]; exact h.1) (by rw [Nat.zero_add]; exact h.2)
      exact this
  · -- a list
    rename_i z' n cs full
    obtain ⟨hzz, hfull, h⟩ := h
    subst hzz; subst hfull
    have hl : lcells s i.size (.list i.size n cs true) = some cs := by simp [lcells]
    obtain ⟨a, n', cap, vs, rfl, hvr, hvl, hcap, hvw⟩ := lcells_ok hl hR.drew hrb (fun b hb => by cases hb)
    have hnn : n' = n ∧ cap = n := by
      cases hrb with
      | list0 _ _ _ _ hf => exact ⟨rfl, hf rfl⟩
      | list _ _ _ _ _ _ _ _ _ hf => exact ⟨rfl, hf rfl⟩
    obtain ⟨rfl, rfl⟩ := hnn
    split at h
    · rename_i h0
      exact same (Nat.le_refl _) h0 hrb h
    · rename_i h0
      refine grow (fun _ _ h => h) (by omega) ⟨vs, hvr, hvl, ?_⟩ h.1 h.2
      exact firstCells_of hvl hvw
  · -- a view
    rename_i i0 off z' n full
    obtain ⟨hzz, h⟩ := h
    subst hzz
    split at h
    rotate_left
    · exact h.elim
    rename_i cs hs
    obtain ⟨hle, h⟩ := h
    have hl : lcells s i.size (.view i0 off i.size n full) = some ((cs.drop off).take (n * i.size)) := by simp [lcells, hs, hle]
    obtain ⟨a, n', cap, vs, rfl, hvr, hvl, hcap, hvw⟩ := lcells_ok hl hR.drew hrb (fun b hb => by cases hb)
    have hnn : n' = n := by cases hrb <;> rfl
    subst hnn
    have hf := firstCells_of (P := P) (cap := cap) hvl hvw
    cases full with
    | true =>
      simp only [if_true] at h
      have hcn : cap = n' := by
        cases hrb with
        | view0 => rfl
        | view _ _ _ _ _ _ _ _ _ hf => exact hf rfl
      split at h
      · rename_i h0
        exact same hcap h0 hrb h
      · rename_i h0
        exact grow (fun _ _ h => h) (by omega) ⟨vs, hvr, hvl, hf⟩ h.1 h.2
    | false =>
      simp only [Bool.false_eq_true, if_false] at h
      obtain ⟨htip, hroom, hk⟩ := h
      have htake : (cs.drop off).take (n' * i.size) = cs.drop off := List.take_of_length_le (by simp; omega)
      rw [htake] at hvr
      by_cases hcp : n' + llen x ≤ cap
      · cases hrb with
        | view0 _ _ _ _ a =>
          have h0 : llen x = 0 := by omega
          rw [h0] at hlx hnl hfc hk
          have hnil : news = [] := by simpa using hnl
          subst hnil
          have hxn : xs = [] := by have := hnr.2.1; simpa using this.symm
          subst hxn
          have hdn : cs.drop off = [] := List.drop_of_length_le (by omega)
          rw [hdn] at hk
          obtain ⟨N, hN⟩ := hR.fin
          obtain ⟨n1, n2, n3⟩ := hN N (Nat.le_refl _)
          refine ⟨_, _, _, _, m, append_none ht ht2 hd2 hi hlx hfc (Nat.le_refl 0), M.le.refl m, ?_, .view0 N 0 i.size false a, hk N n1⟩
          have hw := hR.weaken (le_del s i0)
          refine ⟨hw.below, hw.com, ?_, ?_, ?_, ?_⟩
          · intro k ob l' hk' hl'
            by_cases hkN : k = N
            · subst hkN; rw [n2] at hl'; cases hl'
            · simp only [HS.set, if_neg hkN] at hk'; exact hw.objs _ _ _ hk' hl'
          · intro k ob l' hk' hl'
            by_cases hkN : k = N
            · subst hkN; rw [n2] at hl'; cases hl'
            · simp only [HS.set, if_neg hkN] at hk'; exact hw.own _ _ _ hk' hl'
          · intro a b oa ob la lb ha hb hla hlb hab
            by_cases haN : a = N
            · subst haN; rw [n2] at hla; cases hla
            by_cases hbN : b = N
            · subst hbN; rw [n2] at hlb; cases hlb
            simp only [HS.set, if_neg haN] at ha
            simp only [HS.set, if_neg hbN] at hb
            exact hw.inj a b oa ob la lb ha hb hla hlb hab
          · refine ⟨N + 1, fun k hk' => ?_⟩
            have hkN : k ≠ N := by omega
            obtain ⟨q1, q2, q3⟩ := hN k (by omega)
            refine ⟨?_, q2, q3⟩
            simp only [HS.set, if_neg hkN, HS.del]
            split
            · rfl
            · exact q1
        | view _ _ _ _ _ _ l hll hn' hf' hlim =>
          have hlen2 : xs.length = llen x * i.size := by rw [← hnr.2.1]; exact hnl
          have hcl : cs.length = off + n' * i.size := by omega
          have h9 : (n' + llen x) * i.size ≤ cap * i.size := Nat.mul_le_mul_right _ hcp
          rw [Nat.add_mul] at h9
          obtain ⟨h1, h2⟩ := write_ok (P := P) hR hs hll (off := cs.length) (Nat.le_refl _) (by omega) hnr i0 rfl
          have hput : putCells cs cs.length xs = cs ++ xs := by simp [putCells]
          rw [hput] at h2
          have hrun := append_room (ty := ty) ht ht2 hd2 hi hlx hfc hcp (b := l.b) (o := l.base + off) (w' := w.setCells l.b (l.base + cs.length) news) (by rw [hcl] at h1 ⊢; rw [show l.base + off + n' * i.size = l.base + (off + n' * i.size) from by omega]; exact h1)
          obtain ⟨id, m', q1, q2, q3, q4⟩ := Rel.rename (i := i0) (off := off) (cs := cs ++ xs) (l := l) h2 (by simp [HS.set]) hll (by simp; omega)
          have hdd : (cs ++ xs).drop off = cs.drop off ++ xs := List.drop_append_of_le_length (by omega)
          have hds : (s.set i0 (.cells (cs ++ xs))).del i0 = s.del i0 := by
            funext k
            by_cases hk0 : k = i0 <;> simp [HS.del, HS.set, hk0]
          rw [hdd, hds] at q4
          have hidn : s id = none := by
            simp only [HS.set] at q1
            split at q1
            · cases q1
            · exact q1
          refine ⟨_, _, _, _, m', hrun, q2, q4, ?_, hk id hidn⟩
          have := Rep.view id 0 i.size (n' + llen x) false cap _ q3 hcp (fun h => by cases h) (by show l.base + off + 0 + cap * i.size ≤ l.lim; omega)
          exact this
      · exact grow (le_del s i0) (by omega) ⟨vs, hvr, hvl, hf⟩ hroom hk
  · exact h.elim
end Go.Proofs.Ytecnfekcflfihaa.H
