/- A map of offsets by keys as a state: one predicate, and what its methods leave. -/
import Derived.Test.YtpibjdkenifggaaKM
namespace Go.Proofs.Ytpibjdkenifggaa.KM
open Go.RowKit Go.Maps Go.MapKept Go.ChangeMaps Go.WideElems Go.WideMaps Go.WideShapes Go.Proofs.YtpibjdkenifggaaW.PrintWords Go.Proofs.YtpibjdkenifggaaW.PrintLast Go.Proofs.YtpibjdkenifggaaW.PrintMore

theorem tight {P : Program} {k : TypeId} {R : Value → Option (DataW Unit × List MemPlace)} {w : World} {b n : Nat} {D : DataW Unit} (h : w.ownsMap P k R b n D) : w.ownsMap P k R b (Maps.size D) D := by
  obtain ⟨es, clock, hb, F, _, rfl⟩ := h
  exact ⟨es, clock, hb, F, by simp [Maps.size, length_sorted], rfl⟩

def val : DataW Unit → Int
  | .lit (.int _ x) => x
  | _ => 0
/-- What an offer makes of a map. -/
def offer (most : Int) (D : DataW Unit) (k : Lit) (off : Int) : Bool × DataW Unit :=
  if Maps.has D k = true then (true, D.put k (.lit (.int .i64 (max off (val (D.atKey k (.lit (.int .i64 0))))))))
  else if (Maps.size D : Int) ≥ most then (false, D) else (true, D.put k (.lit (.int .i64 off)))

/-- The state: a block of two cells, and the map's own block. -/
def IsKM (w0 W : World) (g : Nat) (most : Int) (D : DataW Unit) : Prop :=
  ∃ b, W.heap[g]? = some (.cells #[.int .i64 most, .map (some b)] 95 (0, 0)) ∧ W.ownsMap Try.prog 9 (plainElem Try.prog 3) b (Maps.size D) D ∧ w0.heap.size ≤ g ∧ w0.heap.size ≤ b

theorem km_ne {w : World} {g b : Nat} {most : Int} {D : DataW Unit} {n : Nat} (hg : w.heap[g]? = some (.cells #[.int .i64 most, .map (some b)] 95 (0, 0))) (ho : w.ownsMap Try.prog 9 (plainElem Try.prog 3) b n D) : g ≠ b := by
  rintro rfl
  obtain ⟨es, clock, hb, _⟩ := ho
  rw [hg] at hb
  simp at hb

/-- What stands beside the state: every block of cells but its own. -/
def Beside (w w' : World) : Prop := w.heap.size ≤ w'.heap.size ∧ ∀ (k : Nat) (cs : Array Value) (t : TypeId) (fr : Nat × Nat), w.heap[k]? = some (Obj.cells cs t fr) → w'.heap[k]? = some (Obj.cells cs t fr)

theorem offer_km {w0 w : World} {most off : Int} {D : DataW Unit} {A : Option Addr} {l : List Int} {c g : Nat} (h : IsKM w0 w g most D) (hs : Maps.size D < 1000000000) (hwo : (Lit.int .i64 off).wf = true)
    (hB : Below w0.heap.size w0 w) (hr : Kd.C (Kd.int .u8) w A l.length l) :
    Calls Try.prog 16 #[.pointer (some ⟨g, 0, none⟩), .slice A l.length c, .int .i64 off] w fun e w' =>
      e = .returned (.bool (offer most D (kl l) off).1) ∧ IsKM w0 w' g most (offer most D (kl l) off).2 ∧ Below w0.heap.size w0 w' ∧ Beside w w' := by
  obtain ⟨b, hg, ho, h1, h2⟩ := h
  have hgb := km_ne hg ho
  refine (offer_calls (c := c) hgb hs hwo hg ho hr).mono ?_
  rintro e w' (⟨hh, hz, rfl, nd, rfl⟩ | ⟨v, hv, rfl, ho', hgr⟩)
  · have e1 : offer most D (kl l) off = (false, D) := by unfold offer; rw [if_neg (by rw [hh]; decide), if_pos hz]
    rw [e1]
    exact ⟨rfl, ⟨b, hg, ho, h1, h2⟩, pw_below_drewN hB _, Nat.le_refl _, fun k cs t fr hk => hk⟩
  · have e1 : offer most D (kl l) off = (true, D.put (kl l) (.lit (.int .i64 v))) := by
      unfold offer
      rcases hv with ⟨hh, x, hx, rfl⟩ | ⟨hh, hz, rfl⟩
      · rw [if_pos hh, hx]; rfl
      · rw [if_neg (by rw [hh]; decide), if_neg hz]
    rw [e1]
    have hlt : ∀ {k o}, w.heap[k]? = some o → k < w.heap.size := fun hk => (Array.getElem?_eq_some_iff.1 hk).1
    obtain ⟨es, clock, hb, _⟩ := id ho
    refine ⟨rfl, ⟨b, (hgr.block g (hlt hg) (by simpa using hgb)).trans hg, tight ho', h1, h2⟩, ⟨hgr.os.trans hB.os, hgr.tape.trans hB.tape, hgr.output.trans hB.output, Nat.le_trans hB.size hgr.size, fun k hk => ?_⟩, hgr.size, fun k cs t fr hk => ?_⟩
    · exact (hgr.block k (Nat.lt_of_lt_of_le hk hB.size) (by intro he; injection he with he; omega)).trans (hB.block k hk)
    · refine (hgr.block k (hlt hk) (fun he => ?_)).trans hk
      injection he with he
      subst he
      rw [hk] at hb
      simp at hb

/-- What is told of a key. -/
def last (D : DataW Unit) (k : Lit) : Int × Bool := (val (D.atKey k (.lit (.int .i64 0))), Maps.has D k)

theorem last_km {w0 w : World} {most : Int} {D : DataW Unit} {A : Option Addr} {l : List Int} {c g : Nat} (h : IsKM w0 w g most D) (hr : Kd.C (Kd.int .u8) w A l.length l) :
    Calls Try.prog 17 #[.pointer (some ⟨g, 0, none⟩), .slice A l.length c] w fun e w' =>
      e = .returned (.tuple #[.int .i64 (last D (kl l)).1, .bool (last D (kl l)).2]) ∧ ∃ nd, w' = w.drewN nd := by
  obtain ⟨b, hg, ho, h1, h2⟩ := h
  refine (last_calls (c := c) hg ho hr).mono ?_
  rintro e w' ⟨v, rfl, hv, hw⟩
  refine ⟨?_, hw⟩
  unfold last
  rw [hv]; rfl

theorem len_km {w0 w : World} {most : Int} {D : DataW Unit} {g : Nat} (h : IsKM w0 w g most D) :
    Calls Try.prog 20 #[.pointer (some ⟨g, 0, none⟩)] w fun e w' => e = .returned (.int .i64 (Maps.size D)) ∧ w' = w := by
  obtain ⟨b, hg, ho, h1, h2⟩ := h
  exact len_calls hg ho

theorem new_km {w0 w : World} {m : Int} (h0 : 1 ≤ m) (h1 : m ≤ 1000000) (hB : Below w0.heap.size w0 w) :
    Calls Try.prog 15 #[.int .i64 m] w fun e w' => ∃ g, e = .returned (.tuple #[.pointer (some ⟨g, 0, none⟩), .int .i64 0]) ∧ IsKM w0 w' g m (.map []) ∧ Below w0.heap.size w0 w' ∧ Below w.heap.size w w' ∧ w.heap.size ≤ g := by
  refine (new_some h0 h1).mono ?_
  rintro e w' ⟨rfl, rfl⟩
  have hz : (w.alloc (.map #[] 0)).heap.size = w.heap.size + 1 := by show (w.heap.push _).size = _; simp
  refine ⟨_, rfl, ⟨w.heap.size, ?_, (World.ownsMap_made w Try.prog 9 (plainElem Try.prog 3)).alloc _, Nat.le_trans hB.size (Nat.le_succ _), hB.size⟩, below_alloc (below_alloc hB _) _, below_alloc (below_alloc (Below.refl _ _) _) _, Nat.le_succ _⟩
  rw [← hz]
  exact heap_alloc_new _ _

theorem IsKM.below {w0 W W1 : World} {g : Nat} {most : Int} {D : DataW Unit} (h : IsKM w0 W g most D) (hw : Below W.heap.size W W1) : IsKM w0 W1 g most D := by
  obtain ⟨b, hg, ⟨es, clock, hb, F, hs, hD⟩, h1, h2⟩ := h
  have hlt : ∀ {k : Nat} {o : Obj}, W.heap[k]? = some o → k < W.heap.size := fun hk => (Array.getElem?_eq_some_iff.1 hk).1
  exact ⟨b, (hw.block g (hlt hg)).trans hg, ⟨es, clock, (hw.block b (hlt hb)).trans hb, F, hs, hD⟩, h1, h2⟩
theorem IsKM.alloc {w0 W : World} {g : Nat} {most : Int} {D : DataW Unit} (h : IsKM w0 W g most D) (o : Obj) : IsKM w0 (W.alloc o) g most D := h.below (below_alloc (Below.refl _ _) o)
theorem IsKM.drewN {w0 W : World} {g : Nat} {most : Int} {D : DataW Unit} (h : IsKM w0 W g most D) (m : Nat) : IsKM w0 (W.drewN m) g most D := h.below (pw_below_drewN (Below.refl _ _) m)
theorem IsKM.ge {w0 W : World} {g : Nat} {most : Int} {D : DataW Unit} (h : IsKM w0 W g most D) : w0.heap.size ≤ g := by
  obtain ⟨b, _, _, h1, _⟩ := h
  exact h1

end Go.Proofs.Ytpibjdkenifggaa.KM
