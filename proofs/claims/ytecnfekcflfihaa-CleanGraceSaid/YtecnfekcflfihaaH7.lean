/- The H layer, 7: make, maps, bytes of a text. -/
import Derived.Test.YtecnfekcflfihaaH6
namespace Go.Proofs.Ytecnfekcflfihaa.H
open Go.RowKit Go.MapKept
set_option linter.unusedVariables false
set_option linter.unusedSimpArgs false
variable {P : Program} {m : M} {s : HS} {w : World}

theorem aget (a : Array Value) (j : Nat) : a.toList.getD j undef = a.getD j undef := by
  simp only [List.getD, Array.getD_eq_getD_getElem?, Array.getElem?_toList]
def hMake (s : HS) (sz bytes : Nat) (z : Value) (l c : HV) (K : HV → HS → Prop) : Prop :=
  match l, c with
  | .lit (.int .i64 l), .lit (.int .i64 c) => 0 ≤ l ∧ l ≤ c ∧ c ≤ 4611686018427387904 ∧ bytes * c.toNat ≤ 140737488355328 ∧ z.cells.size = sz ∧ z.cells.toList.all Value.oneCell' = true ∧
      hNew s (.cells (zcells z (l.toNat * sz))) (fun id => .view id 0 sz l.toNat (l == c)) K
  | _, _ => False
theorem hMake_ok {t e sz bytes : Nat} {z : Value} {l c : HV} {cl cc : Value} {K : HV → HS → Prop} (he : tElem P t = some e) (hn : tSize P e = some sz) (hb : tBytes P e = some bytes) (hz : tZero P e = some z)
    (h : hMake s sz bytes z l c K) (hR : Rel m s w) (hl : Rep m l cl) (hc : Rep m c cc) : Did m K ((Instr.makeSlice t cl cc).run P w) := by
  obtain ⟨i, hi, rfl, rfl, hiz⟩ : ∃ i, P.info? e = some i ∧ i.size = sz ∧ i.bytes = bytes ∧ i.zero = some z := by
    cases hi : P.info? e with
    | none => simp [tSize, hi] at hn
    | some i => simp [tSize, hi] at hn; simp [tBytes, hi] at hb; simp [tZero, hi] at hz; exact ⟨i, rfl, hn, hb, hz⟩
  unfold hMake at h
  split at h
  rotate_left
  · exact h.elim
  rename_i l c
  cases hl; cases hc
  obtain ⟨h1, h2, h3, h4, hzs, hone, h⟩ := h
  obtain ⟨a, rfl⟩ := Int.eq_ofNat_of_zero_le h1
  obtain ⟨b, rfl⟩ := Int.eq_ofNat_of_zero_le (Int.le_trans h1 h2)
  have hab : a ≤ b := by omega
  have hzr := zcells_reps (m := m) z (b * i.size) (fun h0 => by rw [hzs]; exact Nat.pos_of_mul_pos_left h0) hone
  have hza := zcells_reps (m := m) z (a * i.size) (fun h0 => by rw [hzs]; exact Nat.pos_of_mul_pos_left h0) hone
  have hle : a * i.size ≤ b * i.size := Nat.mul_le_mul_right _ hab
  simp only [Int.toNat_natCast] at h h4
  obtain ⟨id, m', g1, g2, g3, g4⟩ := new_ok (c := (Array.range (b * i.size)).map (z.cells[· % z.cells.size]!)) (t := e) hR hza.1 (by simp [zcells]; exact hle) (fun j x hj => by
    have hlt : j < a * i.size := by have := (List.getElem?_eq_some_iff.1 hj).1; simpa [zcells] using this
    have hj2 : (zcells z (b * i.size))[j]? = some x := by
      simp only [zcells, List.getElem?_map, List.getElem?_range hlt] at hj
      simp only [zcells, List.getElem?_map, List.getElem?_range (show j < b * i.size by omega)]
      exact hj
    have := hzr.2.2 j x hj2
    rw [aget] at this
    exact this) h
  have hfull : ((a : Int) == (b : Int)) = true → b = a := fun hf => by
    have h9 : (a : Int) = b := beq_iff_eq.1 hf
    omega
  have hwl : IntKind.i64.wrap (a : Int) = a := by rw [IntKind.wrap_i64]; omega
  have hwc : IntKind.i64.wrap (b : Int) = b := by rw [IntKind.wrap_i64]; omega
  have hti : (typeInfo e).run P w = .ok i w := by simp [typeInfo, hi]
  have hzv := tZero_run (P := P) (w := w) hz
  refine ⟨.slice (some ⟨w.heap.size, 0, none⟩) a b, _, _, _, m', ?_, g1, g3, .view id 0 i.size a _ b _ g2 hab hfull (by simp), g4⟩
  unfold Instr.makeSlice
  rw [rb (run_underlying (tElem_run he) w)]
  simp only
  have hA : ∀ q : Int, (asInt (.int .i64 q)).run P w = .ok q w := fun q => by simp [asInt, asIntOf]
  rw [rb (hA _), rb (hA _), rb hti]
  simp only [hwl, hwc]
  have hcb : ¬ ((b : Int) < 0) := by omega
  have hla : ¬ ((a : Int) < 0) := by omega
  have hlb : ¬ ((a : Int) > b) := by omega
  have hbig : ¬ ((i.bytes : Int) * (b : Int) > 2 ^ 48) := by
    have : ((i.bytes * b : Nat) : Int) ≤ ((140737488355328 : Nat) : Int) := Int.ofNat_le.2 h4
    rw [Int.natCast_mul] at this
    omega
  have hcond : ((decide ((b : Int) < 0) || decide ((i.bytes : Int) * b > 2 ^ 48)) || decide ((a : Int) < 0) || decide ((a : Int) > b)) = false := by
    rw [decide_eq_false hcb, decide_eq_false hbig, decide_eq_false hla, decide_eq_false hlb]; rfl
  rw [hcond]
  simp only [Bool.false_eq_true, if_false, Int.toNat_natCast]
  have hroom : (askRoom (b * i.bytes)).run P w = .ok () w := by
    simp only [askRoom]
    by_cases hq : b * i.bytes > roomBytes
    · rw [if_pos hq]; rfl
    · rw [if_neg hq]; rfl
  show (askRoom (b * i.bytes) >>= fun _ => _).run P w = _
  rw [rb hroom, rb (tSize_run hn)]
  by_cases h0 : b * i.size = 0
  · have e0 : ∀ (q : Array Value), (Array.range (b * i.size)).map (fun x => q[x % q.size]!) = #[] := fun q => by rw [h0]; simp
    simp only [e0]
    simp only [h0, if_true]
    rfl
  · simp only [h0, if_false]
    show (zeroValue e >>= fun v => _).run P w = _
    rw [rb hzv]
    rfl
theorem new_map_ok {d : TypeDesc} {K : HV → HS → Prop} (hR : Rel m s w) (h : hNew s (.map d (fun _ => none) 0) (fun id => .map id) K) :
    ∃ id m', M.le m m' ∧ Rel m' (s.set id (.map d (fun _ => none) 0)) (w.alloc (.map #[] 0)) ∧ Rep m' (.map id) (.map (some w.heap.size)) ∧ K (.map id) (s.set id (.map d (fun _ => none) 0)) := by
  obtain ⟨id, h1, h2, h3, h4⟩ := hR.new (.map #[] 0) 0
  obtain ⟨g1, g2⟩ := h4 (.map d (fun _ => none) 0) ⟨#[], 0, (heap_alloc w _).1, rfl, stamped_empty 0, (by intro e he; simp at he), (fun k x hk => by cases hk), (by intro e he; simp at he)⟩
  exact ⟨id, _, g1, g2, .map id ⟨w.heap.size, 0, 0⟩ (by simp), h id h1⟩
theorem hMakeMap_ok {t kt et : TypeId} {d : TypeDesc} {r : Option HV} {cr : Option Value} {K : HV → HS → Prop} (ht : P.underlying t = some (.map kt et)) (hr : RepO m r cr) (hri : r = none ∨ (intAt r).isSome = true)
    (h : hNew s (.map d (fun _ => none) 0) (fun id => .map id) K) (hR : Rel m s w) : Did m K ((Instr.makeMap t cr).run P w) := by
  obtain ⟨id, m', h1, h2, h3, h4⟩ := new_map_ok hR h
  refine ⟨_, _, _, _, m', ?_, h1, h2, h3, h4⟩
  cases r with
  | none =>
    cases cr with
    | none => rfl
    | some v => exact hr.elim
  | some x =>
    cases cr with
    | none => exact hr.elim
    | some v =>
      obtain ⟨i, hi⟩ := Option.isSome_iff_exists.1 (hri.resolve_left (by simp))
      obtain ⟨k, rfl⟩ := intAt_ok hr hi
      simp [Instr.makeMap, run_underlying ht, asInt, asIntOf, newObj, Sem.run]
open Classical in
noncomputable def fput (f : Value → Option HV) (k : Value) (v : Option HV) : Value → Option HV := fun q => if q = k then v else f q
def hMapSet (s : HS) (d : Option TypeDesc) (mp k v : HV) (K : HS → Prop) : Prop :=
  match mp, k, d with
  | .map id, .lit k, some d => (match s id with
    | some (.map d' f n) => sameKey d' d = true ∧ keyIs d k = true ∧ K (s.set id (.map d' (fput f k (some v)) (if (f k).isSome then n else n + 1)))
    | _ => False)
  | _, _, _ => False
def hMapDel (s : HS) (d : Option TypeDesc) (mp k : HV) (K : HS → Prop) : Prop :=
  match mp, k, d with
  | .lit (.map none), .lit k, some d => keyIs d k = true ∧ K s
  | .map id, .lit k, some d => (match s id with
    | some (.map d' f n) => sameKey d' d = true ∧ keyIs d k = true ∧ K (s.set id (.map d' (fput f k none) (if (f k).isSome then n - 1 else n)))
    | _ => False)
  | _, _, _ => False
theorem sameKey_eq {d d' : TypeDesc} (h : sameKey d d' = true) : d = d' := by
  unfold sameKey at h
  split at h <;> simp_all
theorem setObj_rel {id : Nat} {ob ob' : HObj} {l : Loc} {o : Obj} (hR : Rel m s w) (hs : s id = some ob) (hl : m.loc id = some l) (hob : ∀ w', w'.heap[l.b]? = some o → ObjAt m ob' l w') (hlt : l.b < w.heap.size) :
    Rel m (s.set id ob') { w with heap := w.heap.setIfInBounds l.b o } := by
  refine hR.upd hs hl (fun b hb => by simp [Ne.symm hb]) rfl rfl rfl (by simp) (hob _ (by simp [hlt]))
theorem key_at {es : Array MapEntry} {clock : Nat} (hst : Stamped es clock) {i j : Nat} {e e' : MapEntry} (hi : es.toList[i]? = some e) (hj : es.toList[j]? = some e') (hk : e.key = e'.key) : i = j := by
  have h8 : (es.toList.map (·.key))[i]? = (es.toList.map (·.key))[j]? := by simp only [List.getElem?_map, hi, hj, Option.map_some, hk]
  exact (List.getElem?_inj (by have := (List.getElem?_eq_some_iff.1 hi).1; simpa using this) hst.2.2).1 h8
theorem hMapSet_ok {t kt et : TypeId} {mp k v : HV} {cm ck cv : Value} {K : HS → Prop} (ht : P.underlying t = some (.map kt et)) (h : hMapSet s (P.underlying kt) mp k v K) (hR : Rel m s w) (hm : Rep m mp cm) (hk : Rep m k ck) (hv : Rep m v cv) :
    ∃ w' s', (Instr.mapUpdate t cm ck cv).run P w = .ok () w' ∧ Rel m s' w' ∧ K s' := by
  unfold hMapSet at h
  split at h
  rotate_left
  · exact h.elim
  rename_i id k' dd d hd
  cases hk
  split at h
  rotate_left
  · exact h.elim
  rename_i d' f n hs
  obtain ⟨h1, h2, h3⟩ := h
  obtain rfl := sameKey_eq h1
  have hik := isKey_of h2
  cases hm with
  | map _ l hl =>
  obtain ⟨es, cl, g1, g2, g3, g4, g5, g6⟩ := hR.objs _ _ _ hs hl
  have hlt : l.b < w.heap.size := (Array.getElem?_eq_some_iff.1 g1).1
  have hg := Go.MapKept.run_getObj_map (P := P) g1
  have hck := fun e => run_checkKey (P := P) (w := w) hd hik e 9999
  rcases findNow_spec hik es.toList 0 g4 with ⟨q1, q2⟩ | ⟨j, e, q1, q2, q3⟩
  · have hf : (Instr.findKey kt ck es.toList).run P w = .ok none w := run_findKey hd q1
    have hfk : f ck = none := by
      cases hfk : f ck with
      | none => rfl
      | some y => obtain ⟨e, he, he2, -⟩ := g5 _ _ hfk; exact absurd he2 (q2 e he)
    rw [hfk] at h3
    refine ⟨_, _, ?_, setObj_rel (ob' := .map d' (fput f ck (some v)) (n + 1)) (o := .map (es.push { key := ck, val := cv, born := cl }) (cl + 1)) hR hs hl (fun w' hw' => ⟨_, _, hw', by simp [g2], stamped_push g3 q2, ?_, ?_, ?_⟩) hlt, h3⟩
    · simp [Instr.mapUpdate, run_underlying ht, hg, hck, hf, run_setObj_map _ g1]
    · intro e he
      simp at he
      rcases he with he | rfl
      · exact g4 e (by simpa using he)
      · exact hik
    · intro q x hq
      simp only [fput] at hq
      split at hq
      · rename_i hqk; cases hq; subst hqk; exact ⟨_, by simp; exact .inr rfl, rfl, hv⟩
      · obtain ⟨e, he, he2, he3⟩ := g5 _ _ hq; exact ⟨e, by simp; exact .inl (by simpa using he), he2, he3⟩
    · intro e he
      simp only [fput]
      split
      · rfl
      · rename_i hne
        simp at he
        rcases he with he | rfl
        · exact g6 e (by simpa using he)
        · exact absurd rfl hne
  · have hf : (Instr.findKey kt ck es.toList).run P w = .ok (some (j, e.val)) w := run_findKey hd (by rw [q1, Nat.zero_add])
    have hem : e ∈ es.toList := List.mem_of_getElem? q2
    have hfk : (f ck).isSome = true := by rw [← q3]; exact g6 e hem
    rw [if_pos hfk] at h3
    have q2' : es[j]? = some e := by rw [← Array.getElem?_toList]; exact q2
    have hkeep : (Instr.keyThatStays (((es[j]?).map (·.key)).getD ck) ck).run P w = .ok ck w := by
      rw [q2']; simp only [Option.map_some, Option.getD_some, q3]; exact run_keyThatStays hik
    have hmod : ∀ i : Nat, (es.modify j fun x => { x with key := ck, val := cv }).toList[i]? = if i = j then some { e with key := ck, val := cv } else es.toList[i]? := by
      intro i
      rw [Array.getElem?_toList, Array.getElem?_modify]
      by_cases hij : j = i
      · subst hij; simp [q2']
      · rw [if_neg hij, if_neg (fun h => hij h.symm), Array.getElem?_toList]
    refine ⟨_, _, ?_, setObj_rel (ob' := .map d' (fput f ck (some v)) n) (o := .map (es.modify j fun x => { x with key := ck, val := cv }) cl) hR hs hl (fun w' hw' => ⟨_, _, hw', by simp [g2], ?_, ?_, ?_, ?_⟩) hlt, h3⟩
    · simp [Instr.mapUpdate, run_underlying ht, hg, hck, hf, hkeep, run_setObj_map _ g1]
    · exact stamped_modify g3 _ _ (fun _ _ => rfl) (fun x _ hx => by rw [q2'] at hx; cases hx; exact q3.symm)
    · exact isKey_modify g4 _ _ (fun x hx => by rw [q2'] at hx; cases hx; exact q3.symm)
    · intro q x hq
      simp only [fput] at hq
      split at hq
      · rename_i hqk; cases hq; subst hqk
        exact ⟨_, List.mem_of_getElem? (i := j) (by rw [hmod, if_pos rfl]), rfl, hv⟩
      · rename_i hqk
        obtain ⟨e', he', he2, he3⟩ := g5 _ _ hq
        obtain ⟨i, hi⟩ := List.getElem?_of_mem he'
        have hij : i ≠ j := fun hij => by subst hij; rw [q2] at hi; cases hi; exact hqk (he2.symm.trans q3)
        exact ⟨e', List.mem_of_getElem? (i := i) (by rw [hmod, if_neg hij]; exact hi), he2, he3⟩
    · intro e' he'
      simp only [fput]
      split
      · rfl
      · rename_i hne
        obtain ⟨i, hi⟩ := List.getElem?_of_mem he'
        rw [hmod] at hi
        split at hi
        · cases hi; exact absurd rfl hne
        · exact g6 e' (List.mem_of_getElem? hi)
theorem hMapDel_ok {t kt et ty : TypeId} {mp k : HV} {cm ck : Value} {K : HS → Prop} (ht : P.underlying t = some (.map kt et)) (h : hMapDel s (P.underlying kt) mp k K) (hR : Rel m s w) (hm : Rep m mp cm) (hk : Rep m k ck) (t2 : TypeId) :
    ∃ w' s', (Builtin.delete_ #[t, t2] ty #[cm, ck]).run P w = .ok (.tuple #[]) w' ∧ Rel m s' w' ∧ K s' := by
  unfold hMapDel at h
  split at h
  · rename_i k' dd d hd
    cases hk; cases hm
    obtain ⟨h2, h3⟩ := h
    have hik := isKey_of h2
    have hck := fun e => run_checkKey (P := P) (w := w) hd hik e 9999
    exact ⟨w, s, by simp [Builtin.delete_, run_underlying ht, hck], hR, h3⟩
  · rename_i id k' dd d hd
    cases hk
    split at h
    rotate_left
    · exact h.elim
    rename_i d' f n hs
    obtain ⟨h1, h2, h3⟩ := h
    obtain rfl := sameKey_eq h1
    have hik := isKey_of h2
    cases hm with
    | map _ l hl =>
    obtain ⟨es, cl, g1, g2, g3, g4, g5, g6⟩ := hR.objs _ _ _ hs hl
    have hlt : l.b < w.heap.size := (Array.getElem?_eq_some_iff.1 g1).1
    have hg := Go.MapKept.run_getObj_map (P := P) g1
    have hck := fun e => run_checkKey (P := P) (w := w) hd hik e 9999
    rcases findNow_spec hik es.toList 0 g4 with ⟨q1, q2⟩ | ⟨j, e, q1, q2, q3⟩
    · have hf : (Instr.findKey kt ck es.toList).run P w = .ok none w := run_findKey hd q1
      have hfk : f ck = none := by
        cases hfk : f ck with
        | none => rfl
        | some y => obtain ⟨e, he, he2, -⟩ := g5 _ _ hfk; exact absurd he2 (q2 e he)
      rw [hfk] at h3
      refine ⟨_, _, ?_, setObj_rel (ob' := .map d' (fput f ck none) n) (o := .map es cl) hR hs hl (fun w' hw' => ⟨_, _, hw', g2, g3, g4, ?_, ?_⟩) hlt, h3⟩
      · simp [Builtin.delete_, run_underlying ht, hg, hck, hf, run_setObj_map _ g1]
      · intro q x hq
        simp only [fput] at hq
        split at hq
        · cases hq
        · exact g5 _ _ hq
      · intro e he
        simp only [fput]
        rw [if_neg (q2 e he)]
        exact g6 e he
    · have hf : (Instr.findKey kt ck es.toList).run P w = .ok (some (j, e.val)) w := run_findKey hd (by rw [q1, Nat.zero_add])
      have hem : e ∈ es.toList := List.mem_of_getElem? q2
      have hfk : (f ck).isSome = true := by rw [← q3]; exact g6 e hem
      rw [if_pos hfk] at h3
      have hjl : j < es.size := by have := (List.getElem?_eq_some_iff.1 q2).1; simpa using this
      have herase : (es.eraseIdxIfInBounds j).toList = es.toList.eraseIdx j := by
        simp [Array.eraseIdxIfInBounds, hjl]
      have hsub : (es.eraseIdxIfInBounds j).toList.Sublist es.toList := by rw [herase]; exact List.eraseIdx_sublist _ _
      have hnot : ∀ x ∈ (es.eraseIdxIfInBounds j).toList, x.key ≠ ck := by
        intro x hx hxk
        rw [herase] at hx
        obtain ⟨i, hi⟩ := List.getElem?_of_mem hx
        rw [List.getElem?_eraseIdx] at hi
        split at hi
        · rename_i hlt2
          have := key_at g3 hi q2 (hxk.trans q3.symm)
          omega
        · rename_i hlt2
          have := key_at g3 hi q2 (hxk.trans q3.symm)
          omega
      refine ⟨_, _, ?_, setObj_rel (ob' := .map d' (fput f ck none) (n - 1)) (o := .map (es.eraseIdxIfInBounds j) cl) hR hs hl (fun w' hw' => ⟨_, _, hw', ?_, stamped_erase g3 _, fun x hx => g4 x (hsub.subset hx), ?_, ?_⟩) hlt, h3⟩
      · simp [Builtin.delete_, run_underlying ht, hg, hck, hf, run_setObj_map _ g1]
      · have h9 := congrArg List.length herase
        rw [Array.length_toList, List.length_eraseIdx, if_pos (by simpa using hjl), Array.length_toList, g2] at h9
        exact h9
      · intro q x hq
        simp only [fput] at hq
        split at hq
        · cases hq
        · rename_i hqk
          obtain ⟨e', he', he2, he3⟩ := g5 _ _ hq
          refine ⟨e', ?_, he2, he3⟩
          rw [herase]
          have hne : e' ≠ e := fun hh => hqk (by rw [← he2, hh]; exact q3)
          obtain ⟨i, hi⟩ := List.getElem?_of_mem he'
          have hij : i ≠ j := fun hij => by subst hij; rw [q2] at hi; cases hi; exact hne rfl
          by_cases hlt2 : i < j
          · exact List.mem_of_getElem? (i := i) (by rw [List.getElem?_eraseIdx, if_pos hlt2]; exact hi)
          · exact List.mem_of_getElem? (i := i - 1) (by rw [List.getElem?_eraseIdx, if_neg (by omega), show i - 1 + 1 = i from by omega]; exact hi)
      · intro x hx
        simp only [fput]
        rw [if_neg (hnot x hx)]
        exact g6 x (hsub.subset hx)
  · exact h.elim
def hStrBytes (s : HS) (x : HV) (K : HV → HS → Prop) : Prop :=
  match x with
  | .lit (.string b) => hNew s (.cells (b.data.toList.map fun c => .lit (.int .u8 c.toNat))) (fun id => .view id 0 1 b.size false) K
  | _ => False
theorem hStrBytes_ok {e : TypeId} {x : HV} {b : ByteArray} {K : HV → HS → Prop} (h : hStrBytes s x K) (hR : Rel m s w) (hx : Rep m x (.string b)) : Did m K ((Conv.stringToBytes e b).run P w) := by
  unfold hStrBytes at h
  split at h
  rotate_left
  · exact h.elim
  rename_i b'
  cases hx
  generalize hcap : grownCap w b.size 0 e = cap
  have hle : b.size ≤ cap := by rw [← hcap]; exact grownCap_ge w b.size 0 e
  have hlits : Reps m (b.data.toList.map fun c => HV.lit (.int .u8 c.toNat)) (b.data.toList.map fun c => Value.int .u8 c.toNat) := by
    have e1 : (b.data.toList.map fun c => HV.lit (.int .u8 c.toNat)) = (b.data.toList.map fun c => Value.int .u8 c.toNat).map .lit := by rw [List.map_map]; rfl
    rw [e1]
    exact reps_lits m (List.all_eq_true.2 (fun v hv => by obtain ⟨c, -, rfl⟩ := List.mem_map.1 hv; rfl))
  have hc : (b.data.map fun c => Value.int .u8 c.toNat) ++ Array.replicate (cap - b.size) (Value.int .u8 0) = (b.data.toList.map fun c => Value.int .u8 c.toNat).toArray ++ Array.replicate (cap - b.size) (Value.int .u8 0) := by
    congr 1; apply Array.ext'; simp
  obtain ⟨id, m', g1, g2, g3, g4⟩ := new_ok (c := (b.data.map fun c => Value.int .u8 c.toNat) ++ Array.replicate (cap - b.size) (Value.int .u8 0)) (t := e) hR.drew hlits.1 (by simp) (fun j x hj => by rw [hc]; exact reps_getD hlits _ j x hj) h
  have hsz : ((b.data.map fun c => Value.int .u8 c.toNat) ++ Array.replicate (cap - b.size) (Value.int .u8 0)).size = cap := by
    have : b.data.size = b.size := rfl
    simp [this]; omega
  rw [hsz] at g2
  generalize hcc : (b.data.map fun c => Value.int .u8 c.toNat) ++ Array.replicate (cap - b.size) (Value.int .u8 0) = cc at *
  have hnb : w.drew.heap.size = w.heap.size := rfl
  have hblk : (w.drew.alloc (.cells cc e)).heap[w.heap.size]? = some (.cells cc e (0, 0)) := by rw [← hnb]; exact (heap_alloc w.drew _).1
  have hlt : w.heap.size < (w.drew.alloc (.cells cc e)).heap.size := (Array.getElem?_eq_some_iff.1 hblk).1
  have hfz : ∀ k, ((w.drew.alloc (.cells cc e)).freeze ⟨w.heap.size, cap, none⟩ 1).heap[k]? = if k = w.heap.size then some (.cells cc e (cap, cap + 1)) else (w.drew.alloc (.cells cc e)).heap[k]? := by
    intro k
    simp only [World.freeze, Nat.succ_ne_zero, if_false, Array.getElem?_modify]
    by_cases hk : w.heap.size = k
    · subst hk; rw [if_pos rfl, if_pos rfl, hblk]; rfl
    · rw [if_neg hk, if_neg (Ne.symm hk)]
  have hsame : (s.set id (.cells (b.data.toList.map fun c => .lit (.int .u8 c.toNat)))).set id (.cells (b.data.toList.map fun c => .lit (.int .u8 c.toNat))) = s.set id (.cells (b.data.toList.map fun c => .lit (.int .u8 c.toNat))) := by
    funext k; simp only [HS.set]; split <;> rfl
  have hid : (s.set id (.cells (b.data.toList.map fun c => HV.lit (.int .u8 c.toNat)))) id = some (.cells (b.data.toList.map fun c => .lit (.int .u8 c.toNat))) := by simp [HS.set]
  have hR2 := g3.upd (w' := (w.drew.alloc (.cells cc e)).freeze ⟨w.heap.size, cap, none⟩ 1) (ob' := .cells (b.data.toList.map fun c => .lit (.int .u8 c.toNat))) hid g2
    (fun k hk => by rw [hfz]; exact if_neg hk) rfl rfl rfl (by simp [World.freeze]) (by
      obtain ⟨h0, c, t, fr, h1, h2, h3, h4, h5⟩ := g3.objs _ _ _ hid g2
      have h1' := hblk.symm.trans h1
      cases h1'
      exact ⟨h0, cc, e, (cap, cap + 1), by rw [hfz]; exact if_pos rfl, h2, h3, .inr (Nat.le_refl _), h5⟩)
  rw [hsame] at hR2
  refine ⟨.slice (some ⟨w.heap.size, 0, none⟩) b.size cap, _, _, _, m', ?_, g1, hR2, .view id 0 1 b.size false cap _ g2 hle (fun h => by cases h) (by simp), g4⟩
  unfold Conv.stringToBytes
  have hch : (choose (.appendCap b.size 0 e)).run P w = .ok cap w.drew := by
    simp only [choose, Sem.run, Question.forced]
    rw [← hcap]
    rfl
  rw [rb hch]
  have hnew : (newRow e ((b.data.map fun c => Value.int .u8 c.toNat) ++ Array.replicate (cap - b.size) (Value.int .u8 0))).run P w.drew = .ok ⟨w.heap.size, 0, none⟩ (w.drew.alloc (.cells cc e)) := by
    rw [hcc]; rfl
  show (newRow e _ >>= fun a => _).run P w.drew = _
  rw [rb hnew]
  have hmk : (markStringish ⟨w.heap.size, 0, none⟩).run P (w.drew.alloc (.cells cc e)) = .ok () ((w.drew.alloc (.cells cc e)).freeze ⟨w.heap.size, cap, none⟩ 1) := by
    unfold markStringish
    have hsh : (shape w.heap.size).run P (w.drew.alloc (.cells cc e)) = .ok (some (e, cap)) (w.drew.alloc (.cells cc e)) := by
      simp only [shape, Sem.run, World.shape?, hblk, hsz]
    show (shape w.heap.size >>= fun a => _).run P _ = _
    rw [rb hsh]
    rfl
  rw [rb hmk]
  rfl
/-- The bytes of a constant text: a row that was just made gets the run-time's mark. -/
def hMark (s : HS) (x : HV) (K : HV → HS → Prop) : Prop :=
  match x with
  | .view id off sz n full => 0 < n ∧ (match s id with | some (.cells _) => K (.view id off sz n full) s | _ => False)
  | _ => False
theorem hMark_ok {t e : TypeId} {x : HV} {cx : Value} {K : HV → HS → Prop} (ht : P.underlying t = some (.slice e)) (he : P.underlying e = some (.int .u8)) (h : hMark s x K) (hR : Rel m s w) (hx : Rep m x cx) : Did m K ((convert t t cx).run P w) := by
  unfold hMark at h
  split at h
  rotate_left
  · exact h.elim
  rename_i id off sz n full
  obtain ⟨hn0, h⟩ := h
  split at h
  rotate_left
  · exact h.elim
  rename_i cs hs
  cases hx with
  | view0 => omega
  | view _ _ _ _ _ cap l hl hn hf hlim =>
  obtain ⟨h0, c, ty, fr, h1, h2, h3, h4, h5⟩ := hR.objs _ _ _ hs hl
  have hlt : l.b < w.heap.size := (Array.getElem?_eq_some_iff.1 h1).1
  obtain ⟨fr', hfr', hfz⟩ : ∃ fr' : Nat × Nat, (fr'.1 = fr'.2 ∨ l.lim ≤ fr'.1) ∧ ∀ k, (w.freeze ⟨l.b, c.size, none⟩ 1).heap[k]? = if k = l.b then some (.cells c ty fr') else w.heap[k]? := by
    obtain ⟨lo, hi⟩ := fr
    refine ⟨if lo == hi then (c.size, c.size + 1) else (min lo c.size, max hi (c.size + 1)), ?_, fun k => ?_⟩
    · by_cases hlh : lo = hi
      · simp [hlh]; omega
      · have : l.lim ≤ lo := by rcases h4 with h | h; exact absurd h hlh; exact h
        simp [hlh]; omega
    · simp only [World.freeze, Nat.succ_ne_zero, if_false, Array.getElem?_modify]
      by_cases hk : l.b = k
      · subst hk; rw [if_pos rfl, if_pos rfl, h1]; rfl
      · rw [if_neg hk, if_neg (Ne.symm hk)]
  have hR2 := hR.upd (w' := w.freeze ⟨l.b, c.size, none⟩ 1) (ob' := .cells cs) hs hl (fun k hk => by rw [hfz]; exact if_neg hk) rfl rfl rfl (by simp [World.freeze])
    ⟨h0, c, ty, fr', by rw [hfz]; exact if_pos rfl, h2, h3, hfr', h5⟩
  have hsame : s.set id (.cells cs) = s := by
    funext k; simp only [HS.set]; split
    · rename_i e; rw [e, hs]
    · rfl
  rw [hsame] at hR2
  refine ⟨.slice (some ⟨l.b, l.base + off, none⟩) n cap, _, _, _, m, ?_, M.le.refl m, hR2, .view id off sz n full cap l hl hn hf hlim, h⟩
  have hsh : w.shape? l.b = some (ty, c.size) := by
    unfold World.shape?; rw [h1]
  simp [convert, run_underlying ht, run_underlying he, markStringish, hsh]
end Go.Proofs.Ytecnfekcflfihaa.H
