/- The texts Ab.Sound11, Ab.Sound12, Ab.Sound13, Ab.Sound14, Ab.Sound15, Ab.Sound16, Ab.Sound17, Ab.Sound18, Ab.Sound19, Ab.SoundF, Ab.Sound20, Ab.Sound21, Ab.Sound22, Ab.Sound23, Ab.Sound24, Ab.Ren, Ab.Sound25: parts of the proof. -/
import Derived.Test.YtadpblhmejoiiaaA1
import Derived.Orders
set_option linter.unusedSimpArgs false
set_option linter.unusedVariables false

/- The abstract machine: append, on its own memory. -/
namespace Go.Ab
section
variable {P : Program}

/-- What an operation comes to. -/
def Out (P : Program) (E : Env) (F : Fr) (w : World) (s : Sem Value) (a : AV) (h' : Heap) (nx' : Nat) : Prop :=
  ∃ v w' E', s.run P w = .ok v w' ∧ E.le E' ∧ VRel E' a v ∧ Good E' h' nx' w' ∧ Framed F E' h' w'

theorem Good.later {E : Env} {h : Heap} {nx nx' : Nat} {w : World} (g : Good E h nx w) (hn : nx ≤ nx') : Good E h nx' w :=
  ⟨g.holds, g.inj, g.imm, g.mem, fun k hk => g.fresh k (Nat.le_trans hn hk)⟩

def Env.put (E : Env) (key b base size : Nat) : Env :=
  { E with blk := fun k => if k = key then some b else E.blk k, base := fun k => if k = key then base else E.base k, size := fun k => if k = key then size else E.size k }

theorem Env.le_put {E : Env} {key b base size : Nat} (h : E.blk key = none ∧ E.lo ≤ key) : E.le (E.put key b base size) :=
  ⟨fun k b' hb => by
    have : k ≠ key := by rintro rfl; rw [h.1] at hb; cases hb
    simp [Env.put, this, hb], fun _ _ h => h, rfl, fun k b' hb => by
    by_cases e : k = key
    · exact .inr (e ▸ h.2)
    · simp only [Env.put, e, if_false] at hb; exact .inl hb⟩

theorem Env.put_at (E : Env) (key b base size : Nat) : (E.put key b base size).blk key = some b ∧ (E.put key b base size).base key = base ∧ (E.put key b base size).size key = size := by simp [Env.put]

/-- A block changes its key. -/
theorem Good.move {E : Env} {h : Heap} {nx : Nat} {w w' : World} {F : Fr} (g : Good E h nx w) (f : Framed F E h w) {old b : Nat} (hl : (hget h old).live) (hb : E.blk old = some b)
    (hw : ∀ b', b' ≠ b → w'.heap[b']? = w.heap[b']?) (hs : w'.heap.size = w.heap.size) (ho : w'.os = w.os) (ht : w'.tape = w.tape) (hout : w'.output = w.output) (base size : Nat) {o : AObj} (hh : Holds (E.put nx b base size) w' nx o) :
    E.le (E.put nx b base size) ∧ Good (E.put nx b base size) (hset (hset h old .none) nx o) (nx + 1) w' ∧ Framed F (E.put nx b base size) (hset (hset h old .none) nx o) w' := by
  have hn : E.blk nx = none := (g.fresh nx (Nat.le_refl _)).1
  have hne : old ≠ nx := by rintro rfl; rw [hn] at hb; cases hb
  have hE : E.le (E.put nx b base size) := Env.le_put (g.fresh nx (Nat.le_refl _))
  have hnew := (Env.put_at E nx b base size).1
  have hkeep : ∀ k, k ≠ nx → (E.put nx b base size).blk k = E.blk k := fun k hk => by simp [Env.put, hk]
  have live' : ∀ k, k ≠ nx → (hget (hset (hset h old .none) nx o) k).live → k ≠ old ∧ (hget h k).live := fun k hk hlv => by
    rw [hget_hset, if_neg (Ne.symm hk), hget_hset] at hlv
    split at hlv
    · exact hlv.elim
    · next e => exact ⟨Ne.symm e, hlv⟩
  have hother : ∀ k, k ≠ nx → (hget (hset (hset h old .none) nx o) k).live → E.blk k ≠ some b := fun k hk hlv e => by
    obtain ⟨h1, h2⟩ := live' k hk hlv
    exact h1 (g.inj k old b h2 hl e hb)
  refine ⟨hE, ⟨?_, ?_, ?_, ?_, ?_⟩, ⟨?_, ?_, ?_, f.memNew, ho.trans f.os, ht.trans f.tape, hout.trans f.output⟩⟩
  · intro k
    by_cases e : k = nx
    · subst e; rw [hget_hset, if_pos rfl]; exact hh
    · cases hq : hget (hset (hset h old .none) nx o) k with
      | none => trivial
      | _ =>
        have hlv : (hget (hset (hset h old .none) nx o) k).live := by rw [hq]; trivial
        have hb' := hother k e hlv
        have hg : hget (hset (hset h old .none) nx o) k = hget h k := by
          rw [hget_hset, if_neg (Ne.symm e), hget_hset, if_neg (Ne.symm (live' k e hlv).1)]
        rw [← hq, hg]
        exact (g.holds k).mono hE fun b' hbk => hw b' (by rintro rfl; exact hb' hbk)
  · intro k k' c hlv hlv' hc hc'
    by_cases e : k = nx <;> by_cases e' : k' = nx
    · exact e.trans e'.symm
    · subst e
      rw [hnew] at hc; cases hc
      rw [hkeep _ e'] at hc'
      exact absurd hc' (hother _ e' hlv')
    · subst e'
      rw [hnew] at hc'; cases hc'
      rw [hkeep _ e] at hc
      exact absurd hc (hother _ e hlv)
    · rw [hkeep _ e] at hc; rw [hkeep _ e'] at hc'
      exact g.inj k k' c (live' k e hlv).2 (live' k' e' hlv').2 hc hc'
  · intro k c hlv hc
    by_cases e : k = nx
    · subst e; rw [hnew] at hc; cases hc; exact g.imm old _ hl hb
    · rw [hkeep _ e] at hc; exact g.imm k c (live' k e hlv).2 hc
  · intro c m hm
    have hm : E.mem c = some m := hm
    obtain ⟨t, fr, h1⟩ := g.mem c m hm
    exact ⟨t, fr, (hw c (by rintro rfl; have hq := g.imm old _ hl hb; rw [show E.mem c = some m from hm] at hq; cases hq)).trans h1⟩
  · intro k hk; rw [hkeep k (by omega)]; exact g.fresh k (by omega)
  · rw [hs]; exact f.size
  · intro c hc hwr
    have : c ≠ b := by
      rintro rfl
      rcases f.own old _ hl hb with h1 | h1
      · omega
      · exact hwr h1
    exact (hw c this).trans (f.old c hc hwr)
  · intro k c hlv hc
    by_cases e : k = nx
    · subst e; rw [hnew] at hc; cases hc; exact f.own old _ hl hb
    · rw [hkeep _ e] at hc; exact f.own k c (live' k e hlv).2 hc

/-- What is appended: so many elements, whose cells are known, wherever the tape has come to. -/
structure Src (P : Program) (sz : Nat) (w : World) (x : Value) (m : Nat) (new : Array Value) : Prop where
  len : (Builtin.lenOf x).run P w = .ok m w
  cells : (Builtin.firstCells sz m x).run P w = .ok new w
  cells' : (Builtin.firstCells sz m x).run P w.drew = .ok new w.drew
  size : new.size = m * sz
  one : ∀ v ∈ new.toList, v.oneCell' = true

theorem Reads.drew {w : World} {kd : IntKind} {v : Value} {n : Nat} {xs : List Int} (h : Reads w kd v n xs) : Reads w.drew kd v n xs := h
theorem ReadsC.drew {E : Env} {w : World} {sz : Nat} {v : Value} {n : Nat} {xs : List AC} (h : ReadsC E w sz v n xs) : ReadsC E w.drew sz v n xs := h

theorem Reads.src {w : World} {kd : IntKind} {v : Value} {n : Nat} {xs : List Int} (h : Reads w kd v n xs) : ∃ new, Src P 1 w v n new ∧ Ints kd xs new 0 := by
  obtain ⟨a1, h1, h2, h3⟩ := h.first (P := P) n (Nat.le_refl _)
  obtain ⟨a2, g1, g2, g3⟩ := h.drew.first (P := P) n (Nat.le_refl _)
  have hl := h.1
  rw [List.take_of_length_le (by omega)] at h3 g3
  have e : a2 = a1 := by
    apply Array.ext
    · omega
    · intro j q1 q2
      have hj : j < xs.length := by omega
      have r1 := h3 j _ (List.getElem?_eq_getElem hj)
      have r2 := g3 j _ (List.getElem?_eq_getElem hj)
      rw [Nat.zero_add, Array.getElem?_eq_getElem q2] at r1
      rw [Nat.zero_add, Array.getElem?_eq_getElem q1] at r2
      exact (Option.some.inj r2).trans (Option.some.inj r1).symm
  subst e
  obtain ⟨_, a, c, rfl, _⟩ := h
  exact ⟨a2, ⟨rfl, h1, g1, by omega, h3.mem_one (by omega)⟩, h3⟩

theorem ReadsC.src {E : Env} {w : World} {sz : Nat} {v : Value} {n : Nat} {xs : List AC} (h : ReadsC E w sz v n xs) : ∃ new, Src P sz w v n new ∧ Cells E xs new 0 := by
  obtain ⟨hl, a, c, rfl, h⟩ := h
  by_cases h0 : n = 0
  · subst h0
    have : xs = [] := List.eq_nil_of_length_eq_zero (by simpa using hl)
    subst this
    refine ⟨#[], ⟨rfl, ?_, ?_, by simp, by simp⟩, fun j x hj => by simp at hj⟩ <;> cases a <;> simp [Builtin.firstCells, loadCells, loadCellsFrom]
  · obtain ⟨b, o, cs, t, fr, rfl, hb, hs, hx⟩ := h.resolve_left h0
    have hc : Cells E xs (cs.extract o (o + n * sz)) 0 := by
      intro j x hj
      have hlt : j < n * sz := by rw [← hl]; exact (List.getElem?_eq_some_iff.1 hj).1
      obtain ⟨u, hu, hr⟩ := hx j x hj
      exact ⟨u, by rw [Nat.zero_add, extract_get cs o _ j hlt (by omega)]; exact hu, hr⟩
    exact ⟨_, ⟨rfl, run_loadCells_at hb hs, run_loadCells_at (w := w.drew) hb hs, by simp; omega, hc.mem_one (by simp; omega)⟩, hc⟩

theorem Ints.append {k : IntKind} {xs ys : List Int} {a b : Array Value} (h : Ints k xs a 0) (h' : Ints k ys b 0) (hl : xs.length = a.size) : Ints k (xs ++ ys) (a ++ b) 0 := by
  intro j x hj
  rw [Nat.zero_add]
  by_cases hlt : j < xs.length
  · rw [List.getElem?_append_left hlt] at hj
    rw [Array.getElem?_append_left (by omega)]
    simpa using h j x hj
  · rw [List.getElem?_append_right (by omega)] at hj
    rw [Array.getElem?_append_right (by omega), ← hl]
    simpa using h' _ x hj
theorem Ints.left {k : IntKind} {xs : List Int} {a b : Array Value} (h : Ints k xs a 0) : Ints k xs (a ++ b) 0 := by
  intro j x hj
  have := h j x hj
  rw [Nat.zero_add] at this ⊢
  have hlt := (Array.getElem?_eq_some_iff.1 this).1
  rw [Array.getElem?_append_left hlt]; exact this
theorem Cells.append {E : Env} {xs ys : List AC} {a b : Array Value} (h : Cells E xs a 0) (h' : Cells E ys b 0) (hl : xs.length = a.size) : Cells E (xs ++ ys) (a ++ b) 0 := by
  intro j x hj
  rw [Nat.zero_add]
  by_cases hlt : j < xs.length
  · rw [List.getElem?_append_left hlt] at hj
    rw [Array.getElem?_append_left (by omega)]
    simpa using h j x hj
  · rw [List.getElem?_append_right (by omega)] at hj
    rw [Array.getElem?_append_right (by omega), ← hl]
    simpa using h' _ x hj
theorem Cells.left {E : Env} {xs : List AC} {a b : Array Value} (h : Cells E xs a 0) : Cells E xs (a ++ b) 0 := by
  intro j x hj
  obtain ⟨u, h1, h2⟩ := h j x hj
  rw [Nat.zero_add] at h1 ⊢
  have hlt := (Array.getElem?_eq_some_iff.1 h1).1
  exact ⟨u, by rw [Array.getElem?_append_left hlt]; exact h1, h2⟩

/-- A new row for what was and what is new. -/
theorem grow_ok {E : Env} {F : Fr} {h : Heap} {nx : Nat} {w : World} (g : Good E h nx w) (f : Framed F E h w) {e : TypeId} {sz n c : Nat} (cells : Array Value) (hs : cells.size = c * sz) (hn : n ≤ c) {o : AObj}
    (ho : ∀ E', E.le E' → E'.blk nx = some w.heap.size → E'.base nx = 0 → E'.size nx = cells.size → Holds E' (w.drew.alloc (.cells cells e)) nx o) :
    ∃ E', E.le E' ∧ VRel E' (.one (.sl nx 0 n sz none)) (.slice (some ⟨w.heap.size, 0, none⟩) n c) ∧ Good E' (hset h nx o) (nx + 1) (w.drew.alloc (.cells cells e)) ∧ Framed F E' (hset h nx o) (w.drew.alloc (.cells cells e)) := by
  obtain ⟨g', f'⟩ := g.drew f
  have hE : E.le (E.new nx w.heap.size cells.size) := Env.le_new (g.fresh nx (Nat.le_refl _))
  have hb : (E.new nx w.heap.size cells.size).blk nx = some w.heap.size ∧ (E.new nx w.heap.size cells.size).base nx = 0 ∧ (E.new nx w.heap.size cells.size).size nx = cells.size := by simp [Env.new]
  obtain ⟨a1, a2, a3⟩ := g'.alloc f' (.cells cells e) o cells.size (ho _ hE hb.1 hb.2.1 hb.2.2)
  refine ⟨E.new nx w.heap.size cells.size, a1, .one _ _ (.sl nx 0 n sz none _ c hn (fun d hd => by cases hd) (.inr ⟨w.heap.size, hb.1, by rw [hb.2.1], by rw [hb.2.1, hb.2.2, hs]; omega⟩)), a2, a3⟩

/-- A slice's own first cells, read where append reads them. -/
theorem old_cells {w : World} {b o len cap sz : Nat} {cs : Array Value} {t : TypeId} {fr : Nat × Nat} (hb : w.heap[b]? = some (.cells cs t fr)) (hs : o + len * sz ≤ cs.size) :
    (Builtin.firstCells sz len (.slice (some ⟨b, o, none⟩) len cap)).run P w.drew = .ok (cs.extract o (o + len * sz)) w.drew := by
  simp only [Builtin.firstCells]
  exact run_loadCells_at (w := w.drew) hb hs

theorem old_none {w : World} {a : Option Addr} {cap sz : Nat} : (Builtin.firstCells sz 0 (.slice a 0 cap)).run P w.drew = .ok #[] w.drew := by
  cases a <;> simp [Builtin.firstCells, loadCells, loadCellsFrom]

/-- A buffer that has room: it goes on in its block, under a new key. -/
theorem bufI_in {E : Env} {F : Fr} {h : Heap} {nx : Nat} {w : World} {t t' e ty : TypeId} {kd : IntKind} {vy : Value} {m old off len n cap : Nat} {a : Option Addr} {xs ys : List Int} {new : Array Value} (g : Good E h nx w) (f : Framed F E h w)
    (hu : P.underlying t = some (.slice e)) (hu' : slOrStr P t' = true) (hk : kindOf P e = some kd) (hob : hget h old = .bufi kd n xs) (hroom : len + m ≤ cap) (hoff : off + len = n)
    (ha : cap = 0 ∨ ∃ b, E.blk old = some b ∧ a = some ⟨b, E.base old + off, none⟩ ∧ E.base old + off + cap * 1 ≤ E.size old) (hy : Src P 1 w vy m new) (hys : Ints kd ys new 0) (hym : ys.length = m) :
    Out P E F w (Builtin.append_ #[t, t'] ty #[.slice a len cap, vy]) (.one (.sl nx 0 (len + m) 1 none)) (hset (hset h old .none) nx (.bufi kd (len + m) (xs.drop off ++ ys))) (nx + 1) := by
  obtain ⟨hue, hce⟩ := kindOf_spec hk
  have he : tyOk P e = true := by obtain ⟨i, hi⟩ := info_of hue; simp [tyOk, hi]
  have hl : (hget h old).live := by rw [hob]; trivial
  have hh := g.holds old
  rw [hob] at hh
  obtain ⟨b, cs, tt, fr, h1, h2, h3, h4, h5, h6, h7⟩ := hh
  have hyn : new.size = m := by have := hy.size; omega
  have hdl : (xs.drop off).length = len := by simp; omega
  have hrun := run_append_in (P := P) (ty := ty) (w := w) (base := a) hu he hu' hroom hy.len (by rw [hce]; exact hy.cells)
  obtain ⟨p1, p2, p3⟩ := Env.put_at E nx b (E.base old + off) (E.size old)
  by_cases hc0 : cap = 0
  · have e1 : len = 0 := by omega
    have e2 : m = 0 := by omega
    have hnew : new = #[] := Array.eq_empty_of_size_eq_zero (by omega)
    have hz : xs.drop off ++ ys = [] := List.eq_nil_of_length_eq_zero (by rw [List.length_append]; omega)
    have hst : (storeAll a (len * P.cellsOf e) new.toList).run P w = Result.ok () w := by
      rw [hnew]
      cases a with
      | none => rfl
      | some a => rfl
    rw [hst, Result.andThen_ok] at hrun
    have hho : Holds (E.put nx b (E.base old + off) (E.size old)) w nx (.bufi kd (len + m) (xs.drop off ++ ys)) :=
      ⟨b, cs, tt, fr, p1, p3.trans h2, by rw [hz]; simp; omega, h4, h5, by rw [p2]; omega, by rw [hz]; intro j x hj; simp at hj⟩
    obtain ⟨a1, a2, a3⟩ := g.move f hl h1 (fun _ _ => rfl) rfl rfl rfl rfl (E.base old + off) (E.size old) hho
    exact ⟨_, _, _, hrun, a1, .one _ _ (.sl nx 0 (len + m) 1 none a cap hroom (fun d hd => by cases hd) (.inl hc0)), a2, a3⟩
  · obtain ⟨b', hb', rfl, hs⟩ := ha.resolve_left hc0
    have : b' = b := by rw [h1] at hb'; exact (Option.some.inj hb').symm
    subst this
    obtain ⟨c', hr, hs', hj⟩ := run_storeCells_row (P := P) b' (E.base old + off + len) tt fr new.toList 0 cs w h4 h5 (by simp; omega) hy.one
    have hst : (storeCells ((⟨b', E.base old + off, none⟩ : Addr).add (len * P.cellsOf e)) new.toList).run P w = .ok () (w.setRow b' c') := by
      rw [hce, Nat.mul_one, add_at]; exact hr
    have hst' : (storeAll (some (⟨b', E.base old + off, none⟩ : Addr)) (len * P.cellsOf e) new.toList).run P w = Result.ok () (w.setRow b' c') := hst
    rw [hst', Result.andThen_ok] at hrun
    have hcont : Ints kd (xs.drop off ++ ys) c' (E.base old + off) := by
      intro j x hjx
      rw [hj]
      by_cases hlt : j < len
      · rw [List.getElem?_append_left (by omega), List.getElem?_drop] at hjx
        rw [if_pos (by omega), Nat.add_assoc]
        exact h7 _ x hjx
      · rw [List.getElem?_append_right (by omega)] at hjx
        have hlt2 : j - (xs.drop off).length < ys.length := (List.getElem?_eq_some_iff.1 hjx).1
        rw [if_neg (by omega), if_pos (by rw [Array.length_toList]; omega)]
        have := hys _ x hjx
        rw [Nat.zero_add] at this
        rw [show E.base old + off + j - (E.base old + off + len + 0) = j - (xs.drop off).length by omega, Array.getElem?_toList]
        exact this
    have hho : Holds (E.put nx b' (E.base old + off) (E.size old)) (w.setRow b' c') nx (.bufi kd (len + m) (xs.drop off ++ ys)) :=
      ⟨b', c', tt, fr, p1, by rw [p3, hs']; exact h2, by rw [List.length_append]; omega, setRow_heap w b' cs c' tt fr h4, by rw [hs']; exact h5, by rw [p2, hs']; omega, by rw [p2]; exact hcont⟩
    obtain ⟨a1, a2, a3⟩ := g.move f hl h1 (fun b'' hne => setRow_other w b' b'' c' hne) (by simp) rfl rfl rfl (E.base old + off) (E.size old) hho
    exact ⟨_, _, _, hrun, a1, .one _ _ (.sl nx 0 (len + m) 1 none _ cap hroom (fun d hd => by cases hd) (.inr ⟨b', p1, by rw [p2]; rfl, by rw [p2, p3]; omega⟩)), a2, a3⟩

/-- A new row of integers: what was, and what is new. -/
theorem outI {E : Env} {F : Fr} {h : Heap} {nx : Nat} {w : World} {t t' e ty : TypeId} {kd : IntKind} {vy : Value} {m len cap : Nat} {a : Option Addr} {zs ys : List Int} {new oldc : Array Value} (g : Good E h nx w) (f : Framed F E h w)
    (hu : P.underlying t = some (.slice e)) (hu' : slOrStr P t' = true) (hk : kindOf P e = some kd) (hz : zeroSz P e 1 = true) (hroom : cap < len + m) (hfit : fitsA P e (len + m) = true)
    (hold : (Builtin.firstCells (P.cellsOf e) len (.slice a len cap)).run P w.drew = .ok oldc w.drew) (hos : oldc.size = len) (hzs : Ints kd zs oldc 0) (hzl : zs.length = len) (hy : Src P 1 w vy m new) (hys : Ints kd ys new 0) (hym : ys.length = m) :
    Out P E F w (Builtin.append_ #[t, t'] ty #[.slice a len cap, vy]) (.one (.sl nx 0 (len + m) 1 none)) (hset h nx (.bufi kd (len + m) (zs ++ ys))) (nx + 1) := by
  obtain ⟨hue, hce⟩ := kindOf_spec hk
  have hyn : new.size = m := by have := hy.size; omega
  obtain ⟨c1, rest, r1, r2, r3⟩ := run_append_out (P := P) (ty := ty) hu hu' (by rw [hce]; exact hz) hroom hfit hy.len (by rw [hce]; exact hy.cells') hold
  rw [hce, Nat.mul_one] at r2
  have hcs : (oldc ++ new ++ rest).size = c1 * 1 := by rw [Array.size_append, Array.size_append]; omega
  obtain ⟨E', a1, a2, a3, a4⟩ := grow_ok (o := .bufi kd (len + m) (zs ++ ys)) g f (e := e) (sz := 1) (n := len + m) (c := c1) (oldc ++ new ++ rest) hcs r1
    (fun E' hE b1 b2 b3 => ⟨w.heap.size, _, e, (0, 0), b1, b3, by rw [List.length_append]; omega, heap_alloc_new w.drew _, Or.inl rfl, by rw [b2]; omega, by rw [b2]; exact (hzs.append hys (by omega)).left⟩)
  exact ⟨_, _, E', r3, a1, a2, a3, a4⟩

/-- An array that has room. -/
theorem arrI_in {E : Env} {F : Fr} {h : Heap} {nx : Nat} {w : World} {t t' e ty : TypeId} {kd : IntKind} {vy : Value} {m old off len n cap : Nat} {a : Option Addr} {xs ys : List Int} {new : Array Value} (g : Good E h nx w) (f : Framed F E h w)
    (hu : P.underlying t = some (.slice e)) (hu' : slOrStr P t' = true) (hk : kindOf P e = some kd) (hob : hget h old = .arri kd n xs) (hroom : len + m ≤ cap) (hoff : off + len + m ≤ n) (hc0 : cap ≠ 0)
    (ha : cap = 0 ∨ ∃ b, E.blk old = some b ∧ a = some ⟨b, E.base old + off, none⟩ ∧ E.base old + off + cap * 1 ≤ E.size old) (hy : Src P 1 w vy m new) (hys : Ints kd ys new 0) (hym : ys.length = m) :
    Out P E F w (Builtin.append_ #[t, t'] ty #[.slice a len cap, vy]) (.one (.sl old off (len + m) 1 (some cap))) (hset h old (.arri kd n (splice xs (off + len) ys))) (nx + 1) := by
  obtain ⟨hue, hce⟩ := kindOf_spec hk
  have he : tyOk P e = true := by obtain ⟨i, hi⟩ := info_of hue; simp [tyOk, hi]
  have hl : (hget h old).live := by rw [hob]; trivial
  have hh := g.holds old
  rw [hob] at hh
  obtain ⟨b, cs, tt, fr, h1, h2, h3, h4, h5, h6, h7, h8⟩ := hh
  have hyn : new.size = m := by have := hy.size; omega
  have hrun := run_append_in (P := P) (ty := ty) (w := w) (base := a) hu he hu' hroom hy.len (by rw [hce]; exact hy.cells)
  obtain ⟨b', hb', rfl, hs⟩ := ha.resolve_left hc0
  have : b' = b := by rw [h1] at hb'; exact (Option.some.inj hb').symm
  subst this
  obtain ⟨c', hr, hs', hj⟩ := run_storeCells_row (P := P) b' (E.base old + off + len) tt fr new.toList 0 cs w h5 h6 (by simp; omega) hy.one
  have hst : (storeCells ((⟨b', E.base old + off, none⟩ : Addr).add (len * P.cellsOf e)) new.toList).run P w = .ok () (w.setRow b' c') := by
    rw [hce, Nat.mul_one, add_at]; exact hr
  have hst' : (storeAll (some (⟨b', E.base old + off, none⟩ : Addr)) (len * P.cellsOf e) new.toList).run P w = Result.ok () (w.setRow b' c') := hst
  rw [hst', Result.andThen_ok] at hrun
  have hcont : Ints kd (splice xs (off + len) ys) c' 0 := by
    refine Ints.splice 0 h8 hys (by omega) (by omega) (fun j => ?_)
    have := hj j
    rw [h2, Array.length_toList, Array.getElem?_toList] at this
    rw [this]
    simp only [Nat.zero_add, Nat.add_zero]
  have hho : Holds E (w.setRow b' c') old (.arri kd n (splice xs (off + len) ys)) :=
    ⟨b', c', tt, fr, h1, h2, h3, by rw [length_splice xs _ ys (by omega)]; exact h4, setRow_heap w b' cs c' tt fr h5, by rw [hs']; exact h6, by omega, hcont⟩
  obtain ⟨a1, a2⟩ := setRow_keeps g f hl h1 hho
  exact ⟨_, _, E, hrun, Env.le_refl E, .one _ _ (.sl old off (len + m) 1 (some cap) _ cap hroom (fun d hd => by cases hd; rfl) (.inr ⟨b', h1, rfl, hs⟩)), a1.later (by omega), a2⟩

/-- The first cells of a slice, as append reads them. -/
theorem olds {w : World} {sz b base off len cap : Nat} {a : Option Addr} {cs : Array Value} {tt : TypeId} {fr : Nat × Nat} (hb : w.heap[b]? = some (.cells cs tt fr)) (hsz : base + off + len * sz ≤ cs.size) (ha : len = 0 ∨ a = some ⟨b, base + off, none⟩) :
    (Builtin.firstCells sz len (.slice a len cap)).run P w.drew = .ok (cs.extract (base + off) (base + off + len * sz)) w.drew := by
  by_cases h0 : len = 0
  · subst h0
    rw [old_none]
    congr 1
    simp
    omega
  · rw [ha.resolve_left h0]
    exact old_cells hb hsz

theorem ints_extract {kd : IntKind} {xs : List Int} {cs : Array Value} {base off len n : Nat} (h : Ints kd xs cs base) (hx : xs.length = n) (hn : off + len ≤ n) (hs : base + n ≤ cs.size) : Ints kd (sub xs off len) (cs.extract (base + off) (base + off + len)) 0 := by
  intro j x hj
  have hlt : j < len := by
    have := (List.getElem?_eq_some_iff.1 hj).1
    rw [length_sub xs off len (by omega)] at this; exact this
  rw [Nat.zero_add, extract_get cs _ _ j hlt (by omega)]
  exact h.sub off len j x hj

set_option maxHeartbeats 1000000 in
theorem appendI_ok {E : Env} {F : Fr} {h : Heap} {nx : Nat} {w : World} {Φ : Post} {t t' e ty : TypeId} {kd : IntKind} {x : AC} {vx vy : Value} {m : Nat} {ys : List Int} {new : Array Value} {k : AV → Heap → T} (g : Good E h nx w) (f : Framed F E h w)
    (hu : P.underlying t = some (.slice e)) (hu' : slOrStr P t' = true) (hk : kindOf P e = some kd) (hz : zeroSz P e 1 = true) (hx : CRel E x vx) (hy : Src P 1 w vy m new) (hys : Ints kd ys new 0) (hym : ys.length = m)
    (H : TOk Φ (appendI P T.fail e kd h x m ys nx k)) : ∃ a h', Out P E F w (Builtin.append_ #[t, t'] ty #[vx, vy]) a h' (nx + 1) ∧ TOk Φ (k a h') := by
  obtain ⟨hue, hce⟩ := kindOf_spec hk
  have he : tyOk P e = true := by obtain ⟨i, hi⟩ := info_of hue; simp [tyOk, hi]
  unfold appendI at H
  split at H
  · cases hx
    cases hq : Nat.beq m 0 with
    | true =>
      rw [hq] at H
      have := beqN hq
      subst this
      refine ⟨_, _, ⟨.slice none 0 0, w, E, ?_, Env.le_refl E, .one _ _ .nils, g.later (by omega), f⟩, H⟩
      rw [run_append_in (P := P) hu he hu' (Nat.le_refl _) hy.len (by rw [hce]; exact hy.cells)]
      rfl
    | false =>
      rw [hq] at H
      obtain ⟨hf, H2⟩ := cond_ok H
      have hm : m ≠ 0 := fun e => by subst e; cases hq
      have := outI (ty := ty) (len := 0) (cap := 0) (a := none) (zs := []) g f hu hu' hk hz (by omega) (by rw [Nat.zero_add]; exact hf) old_none rfl (fun j x hj => by simp at hj) rfl hy hys hym
      rw [Nat.zero_add, List.nil_append] at this
      exact ⟨_, _, this, H2⟩
  · cases hx with | emp a0 =>
    cases hq : Nat.beq m 0 with
    | true =>
      rw [hq] at H
      have := beqN hq
      subst this
      refine ⟨_, _, ⟨.slice a0 0 0, w, E, ?_, Env.le_refl E, .one _ _ (.emp a0), g.later (by omega), f⟩, H⟩
      rw [run_append_in (P := P) hu he hu' (Nat.le_refl _) hy.len (by rw [hce]; exact hy.cells), show new = #[] from Array.eq_empty_of_size_eq_zero (by have := hy.size; omega)]
      cases a0 <;> rfl
    | false =>
      rw [hq] at H
      obtain ⟨hf, H2⟩ := cond_ok H
      have hm : m ≠ 0 := fun e => by subst e; cases hq
      have := outI (ty := ty) (len := 0) (cap := 0) (a := a0) (zs := []) g f hu hu' hk hz (by omega) (by rw [Nat.zero_add]; exact hf) old_none rfl (fun j x hj => by simp at hj) rfl hy hys hym
      rw [Nat.zero_add, List.nil_append] at this
      exact ⟨_, _, this, H2⟩
  · next old off len sz c =>
    cases hx with | sl _ _ _ _ _ a cap hlc hcap ha =>
    have hh := g.holds old
    split at H
    · next kd' n xs hob =>
      rw [hob] at hh
      obtain ⟨b, cs, tt, fr, h1, h2, h3, h4, h5, h6, h7⟩ := hh
      obtain ⟨q, H2⟩ := cond_ok H
      simp only [Bool.and_eq_true] at q
      have q1 := beqK q.1.1.1; have q2 := beqN q.1.1.2; have q3 := beqN q.1.2; have q4 := q.2
      subst q1; subst q2
      have hxs : (cond (Nat.beq off 0) xs (xs.drop off)) = xs.drop off := by
        cases hq : Nat.beq off 0 with
        | false => rfl
        | true => have := beqN hq; subst this; rfl
      rw [hxs] at H2
      by_cases hroom : len + m ≤ cap
      · exact ⟨_, _, bufI_in g f hu hu' hk hob hroom q3 ha hy hys hym, H2⟩
      · have hsub : xs.drop off = sub xs off len := by
          unfold sub; rw [List.take_of_length_le (by simp; omega)]
        have hdl := length_sub xs off len (by omega)
        have haddr : len = 0 ∨ a = some ⟨b, E.base old + off, none⟩ := by
          refine (Nat.eq_zero_or_pos len).imp id fun hp => ?_
          obtain ⟨b', hb', ha', _⟩ := ha.resolve_left (by omega)
          have : b' = b := by rw [h1] at hb'; exact (Option.some.inj hb').symm
          rw [ha', this]
        have hold := olds (P := P) (cap := cap) (sz := P.cellsOf e) h4 (by rw [hce]; omega) haddr
        rw [hsub] at H2
        exact ⟨_, _, outI (g.kill f old).1 (g.kill f old).2 hu hu' hk hz (by omega) q4 hold (by simp [hce]; omega) (by rw [hce, Nat.mul_one]; exact ints_extract h7 h3 (by omega) h6) hdl hy hys hym, H2⟩
    · next kd' n xs hob =>
      rw [hob] at hh
      obtain ⟨b, cs, tt, fr, h1, h2, h3, h4, h5, h6, h7, h8⟩ := hh
      split at H
      · next c =>
        have hcc := hcap c rfl
        subst hcc
        obtain ⟨q, H2⟩ := cond_ok H
        simp only [Bool.and_eq_true] at q
        have q1 := beqK q.1.1.1; have q2 := beqN q.1.1.2; have q3 := bleN q.1.2; have q4 := q.2
        subst q1; subst q2
        cases hq : Nat.ble (len + m) cap with
        | true =>
          rw [hq] at H2
          simp only [cond_true] at H2
          cases hc0' : Nat.beq cap 0 with
          | true =>
            rw [hc0', cond_true] at H2
            have e1 := beqN hc0'
            have e2 := bleN hq
            have e3 : len = 0 := by omega
            have e4 : m = 0 := by omega
            subst e1; subst e3; subst e4
            refine ⟨_, _, ⟨.slice a 0 0, w, E, ?_, Env.le_refl E, .one _ _ (.emp a), g.later (by omega), f⟩, H2⟩
            rw [run_append_in (P := P) hu he hu' (Nat.le_refl _) hy.len (by rw [hce]; exact hy.cells), show new = #[] from Array.eq_empty_of_size_eq_zero (by have := hy.size; omega)]
            cases a <;> rfl
          | false =>
          rw [hc0', cond_false] at H2
          obtain ⟨p, H3⟩ := cond_ok H2
          have p1 := bleN p
          have hc0 : cap ≠ 0 := fun e => by subst e; simp at hc0'
          exact ⟨_, _, arrI_in g f hu hu' hk hob (bleN hq) p1 hc0 ha hy hys hym, H3⟩
        | false =>
          rw [hq] at H2
          have hroom : ¬ len + m ≤ cap := fun hle => by rw [Nat.ble_eq_true_of_le hle] at hq; cases hq
          have hdl := length_sub xs off len (by omega)
          have haddr : len = 0 ∨ a = some ⟨b, E.base old + off, none⟩ := by
            refine (Nat.eq_zero_or_pos len).imp id fun hp => ?_
            obtain ⟨b', hb', ha', _⟩ := ha.resolve_left (by omega)
            have : b' = b := by rw [h1] at hb'; exact (Option.some.inj hb').symm
            rw [ha', this]
          have hold := olds (P := P) (cap := cap) (sz := P.cellsOf e) h5 (by rw [hce]; omega) haddr
          have h8' : Ints kd xs cs (E.base old) := by rw [h2]; exact h8
          exact ⟨_, _, outI g f hu hu' hk hz (by omega) q4 hold (by simp [hce]; omega) (by rw [hce, Nat.mul_one]; exact ints_extract h8' h4 (by omega) (by omega)) hdl hy hys hym, H2⟩
      · exact H.elim
    · exact H.elim
  · exact H.elim

end
end Go.Ab

/- The abstract machine: append of wider elements; copy. -/
namespace Go.Ab
section
variable {P : Program}

/-- A buffer that has room: it goes on in its block, under a new key. -/
theorem bufC_in {E : Env} {F : Fr} {h : Heap} {nx : Nat} {w : World} {t t' e ty : TypeId} {vy : Value} {sz m old off len n cap : Nat} {a : Option Addr} {xs ys : List AC} {new : Array Value} (g : Good E h nx w) (f : Framed F E h w)
    (hu : P.underlying t = some (.slice e)) (hu' : slOrStr P t' = true) (he : tyOk P e = true) (hce : P.cellsOf e = sz) (hob : hget h old = .bufc sz n xs) (hroom : len + m ≤ cap) (hoff : off + len * sz = n * sz)
    (ha : cap = 0 ∨ ∃ b, E.blk old = some b ∧ a = some ⟨b, E.base old + off, none⟩ ∧ E.base old + off + cap * sz ≤ E.size old) (hy : Src P sz w vy m new) (hys : Cells E ys new 0) (hym : ys.length = m * sz) (hynk : NK ys) :
    Out P E F w (Builtin.append_ #[t, t'] ty #[.slice a len cap, vy]) (.one (.sl nx 0 (len + m) sz none)) (hset (hset h old .none) nx (.bufc sz (len + m) (xs.drop off ++ ys))) (nx + 1) := by
  have hl : (hget h old).live := by rw [hob]; trivial
  have hh := g.holds old
  rw [hob] at hh
  obtain ⟨b, cs, tt, fr, h1, h2, h3, h4, h5, h6, h7, h8⟩ := hh
  have hyn : new.size = m * sz := hy.size
  have hdl : (xs.drop off).length = len * sz := by simp; omega
  have hmul : (len + m) * sz = len * sz + m * sz := Nat.add_mul _ _ _
  have hmul2 : (len + m) * sz ≤ cap * sz := Nat.mul_le_mul_right _ hroom
  have hrun := run_append_in (P := P) (ty := ty) (w := w) (base := a) hu he hu' hroom hy.len (by rw [hce]; exact hy.cells)
  have hE : E.le (E.put nx b (E.base old + off) (E.size old)) := Env.le_put (g.fresh nx (Nat.le_refl _))
  obtain ⟨p1, p2, p3⟩ := Env.put_at E nx b (E.base old + off) (E.size old)
  by_cases hc0 : cap = 0
  · have e1 : len = 0 := by omega
    have e2 : m = 0 := by omega
    have hnew : new = #[] := Array.eq_empty_of_size_eq_zero (by rw [hyn, e2, Nat.zero_mul])
    have hz : xs.drop off ++ ys = [] := List.eq_nil_of_length_eq_zero (by rw [List.length_append, hdl, hym, e1, e2]; simp)
    have hst : (storeAll a (len * P.cellsOf e) new.toList).run P w = Result.ok () w := by
      rw [hnew]
      cases a with
      | none => rfl
      | some a => rfl
    rw [hst, Result.andThen_ok] at hrun
    have hho : Holds (E.put nx b (E.base old + off) (E.size old)) w nx (.bufc sz (len + m) (xs.drop off ++ ys)) :=
      ⟨b, cs, tt, fr, p1, p3.trans h2, by rw [hz, e1, e2]; simp, h4, h5, by rw [p2, hmul]; rw [e1, e2] at *; omega, by rw [hz]; intro j x hj; simp at hj, (h8.drop _).append hynk⟩
    obtain ⟨a1, a2, a3⟩ := g.move f hl h1 (fun _ _ => rfl) rfl rfl rfl rfl (E.base old + off) (E.size old) hho
    exact ⟨_, _, _, hrun, a1, .one _ _ (.sl nx 0 (len + m) sz none a cap hroom (fun d hd => by cases hd) (.inl hc0)), a2, a3⟩
  · obtain ⟨b', hb', rfl, hs⟩ := ha.resolve_left hc0
    have : b' = b := by rw [h1] at hb'; exact (Option.some.inj hb').symm
    subst this
    obtain ⟨c', hr, hs', hj⟩ := run_storeCells_row (P := P) b' (E.base old + off + len * sz) tt fr new.toList 0 cs w h4 h5 (by simp; omega) hy.one
    have hst : (storeCells ((⟨b', E.base old + off, none⟩ : Addr).add (len * P.cellsOf e)) new.toList).run P w = .ok () (w.setRow b' c') := by
      rw [hce, add_at]; exact hr
    have hst' : (storeAll (some (⟨b', E.base old + off, none⟩ : Addr)) (len * P.cellsOf e) new.toList).run P w = Result.ok () (w.setRow b' c') := hst
    rw [hst', Result.andThen_ok] at hrun
    have hcont : Cells (E.put nx b' (E.base old + off) (E.size old)) (xs.drop off ++ ys) c' (E.base old + off) := by
      intro j x hjx
      rw [hj]
      by_cases hlt : j < len * sz
      · rw [List.getElem?_append_left (by omega), List.getElem?_drop] at hjx
        rw [if_pos (by omega), Nat.add_assoc]
        obtain ⟨u, q1, q2⟩ := h7 _ x hjx
        exact ⟨u, q1, q2.mono hE⟩
      · rw [List.getElem?_append_right (by omega)] at hjx
        have hlt2 : j - (xs.drop off).length < ys.length := (List.getElem?_eq_some_iff.1 hjx).1
        rw [if_neg (by omega), if_pos (by rw [Array.length_toList]; omega)]
        obtain ⟨u, q1, q2⟩ := hys _ x hjx
        rw [Nat.zero_add] at q1
        rw [show E.base old + off + j - (E.base old + off + len * sz + 0) = j - (xs.drop off).length by omega, Array.getElem?_toList]
        exact ⟨u, q1, q2.mono hE⟩
    have hho : Holds (E.put nx b' (E.base old + off) (E.size old)) (w.setRow b' c') nx (.bufc sz (len + m) (xs.drop off ++ ys)) :=
      ⟨b', c', tt, fr, p1, by rw [p3, hs']; exact h2, by rw [List.length_append]; omega, setRow_heap w b' cs c' tt fr h4, by rw [hs']; exact h5, by rw [p2, hs']; omega, by rw [p2]; exact hcont, (h8.drop _).append hynk⟩
    obtain ⟨a1, a2, a3⟩ := g.move f hl h1 (fun b'' hne => setRow_other w b' b'' c' hne) (by simp) rfl rfl rfl (E.base old + off) (E.size old) hho
    exact ⟨_, _, _, hrun, a1, .one _ _ (.sl nx 0 (len + m) sz none _ cap hroom (fun d hd => by cases hd) (.inr ⟨b', p1, by rw [p2]; rfl, by rw [p2, p3]; omega⟩)), a2, a3⟩

/-- A new row: what was, and what is new. -/
theorem outC {E : Env} {F : Fr} {h : Heap} {nx : Nat} {w : World} {t t' e ty : TypeId} {vy : Value} {sz m len cap : Nat} {a : Option Addr} {zs ys : List AC} {new oldc : Array Value} (g : Good E h nx w) (f : Framed F E h w)
    (hu : P.underlying t = some (.slice e)) (hu' : slOrStr P t' = true) (hce : P.cellsOf e = sz) (hz : zeroSz P e sz = true) (hroom : cap < len + m) (hfit : fitsA P e (len + m) = true)
    (hold : (Builtin.firstCells (P.cellsOf e) len (.slice a len cap)).run P w.drew = .ok oldc w.drew) (hos : oldc.size = len * sz) (hzs : Cells E zs oldc 0) (hzl : zs.length = len * sz) (hznk : NK zs) (hy : Src P sz w vy m new) (hys : Cells E ys new 0) (hym : ys.length = m * sz) (hynk : NK ys) :
    Out P E F w (Builtin.append_ #[t, t'] ty #[.slice a len cap, vy]) (.one (.sl nx 0 (len + m) sz none)) (hset h nx (.bufc sz (len + m) (zs ++ ys))) (nx + 1) := by
  have hyn : new.size = m * sz := hy.size
  have hmul : (len + m) * sz = len * sz + m * sz := Nat.add_mul _ _ _
  obtain ⟨c1, rest, r1, r2, r3⟩ := run_append_out (P := P) (ty := ty) hu hu' (by rw [hce]; exact hz) hroom hfit hy.len (by rw [hce]; exact hy.cells') hold
  rw [hce] at r2
  have hmul3 : (len + m) * sz + (c1 - (len + m)) * sz = c1 * sz := by rw [← Nat.add_mul]; congr 1; omega
  have hcs : (oldc ++ new ++ rest).size = c1 * sz := by rw [Array.size_append, Array.size_append]; omega
  obtain ⟨E', a1, a2, a3, a4⟩ := grow_ok (o := .bufc sz (len + m) (zs ++ ys)) g f (e := e) (sz := sz) (n := len + m) (c := c1) (oldc ++ new ++ rest) hcs r1
    (fun E' hE b1 b2 b3 => ⟨w.heap.size, _, e, (0, 0), b1, b3, by rw [List.length_append]; omega, heap_alloc_new w.drew _, Or.inl rfl, by rw [b2]; omega, by rw [b2]; exact ((hzs.append hys (by omega)).left).mono hE, hznk.append hynk⟩)
  exact ⟨_, _, E', r3, a1, a2, a3, a4⟩

theorem cells_extract {E : Env} {xs : List AC} {cs : Array Value} {base off len n : Nat} (h : Cells E xs cs base) (hx : xs.length = n) (hn : off + len ≤ n) (hs : base + n ≤ cs.size) : Cells E (sub xs off len) (cs.extract (base + off) (base + off + len)) 0 := by
  intro j x hj
  have hlt : j < len := by
    have := (List.getElem?_eq_some_iff.1 hj).1
    rw [length_sub xs off len (by omega)] at this; exact this
  rw [Nat.zero_add, extract_get cs _ _ j hlt (by omega)]
  exact h.sub off len j x hj

set_option maxHeartbeats 1000000 in
theorem appendC_ok {E : Env} {F : Fr} {h : Heap} {nx : Nat} {w : World} {Φ : Post} {t t' e ty : TypeId} {sz : Nat} {x : AC} {vx vy : Value} {m : Nat} {ys : List AC} {new : Array Value} {k : AV → Heap → T} (g : Good E h nx w) (f : Framed F E h w)
    (hu : P.underlying t = some (.slice e)) (hu' : slOrStr P t' = true) (he : tyOk P e = true) (hce : P.cellsOf e = sz) (hz : zeroSz P e sz = true) (hx : CRel E x vx) (hy : Src P sz w vy m new) (hys : Cells E ys new 0) (hym : ys.length = m * sz) (hynk : NK ys)
    (H : TOk Φ (appendC P T.fail e sz h x m ys nx k)) : ∃ a h', Out P E F w (Builtin.append_ #[t, t'] ty #[vx, vy]) a h' (nx + 1) ∧ TOk Φ (k a h') := by
  unfold appendC at H
  split at H
  · cases hx
    cases hq : Nat.beq m 0 with
    | true =>
      rw [hq] at H
      have := beqN hq
      subst this
      refine ⟨_, _, ⟨.slice none 0 0, w, E, ?_, Env.le_refl E, .one _ _ .nils, g.later (by omega), f⟩, H⟩
      rw [run_append_in (P := P) hu he hu' (Nat.le_refl _) hy.len (by rw [hce]; exact hy.cells)]
      rfl
    | false =>
      rw [hq] at H
      obtain ⟨hf, H2⟩ := cond_ok H
      have hm : m ≠ 0 := fun e => by subst e; cases hq
      have := outC (ty := ty) (len := 0) (cap := 0) (a := none) (zs := []) g f hu hu' hce hz (by omega) (by rw [Nat.zero_add]; exact hf) old_none (by simp) (fun j x hj => by simp at hj) (by simp) .nil hy hys hym hynk
      rw [Nat.zero_add, List.nil_append] at this
      exact ⟨_, _, this, H2⟩
  · cases hx with | emp a0 =>
    cases hq : Nat.beq m 0 with
    | true =>
      rw [hq] at H
      have := beqN hq
      subst this
      refine ⟨_, _, ⟨.slice a0 0 0, w, E, ?_, Env.le_refl E, .one _ _ (.emp a0), g.later (by omega), f⟩, H⟩
      rw [run_append_in (P := P) hu he hu' (Nat.le_refl _) hy.len (by rw [hce]; exact hy.cells), show new = #[] from Array.eq_empty_of_size_eq_zero (by have := hy.size; omega)]
      cases a0 <;> rfl
    | false =>
      rw [hq] at H
      obtain ⟨hf, H2⟩ := cond_ok H
      have hm : m ≠ 0 := fun e => by subst e; cases hq
      have := outC (ty := ty) (len := 0) (cap := 0) (a := a0) (zs := []) g f hu hu' hce hz (by omega) (by rw [Nat.zero_add]; exact hf) old_none (by simp) (fun j x hj => by simp at hj) (by simp) .nil hy hys hym hynk
      rw [Nat.zero_add, List.nil_append] at this
      exact ⟨_, _, this, H2⟩
  · next old off len sz' c =>
    cases hx with | sl _ _ _ _ _ a cap hlc hcap ha =>
    have hh := g.holds old
    split at H
    · next sz'' n xs hob =>
      rw [hob] at hh
      obtain ⟨b, cs, tt, fr, h1, h2, h3, h4, h5, h6, h7, h7k⟩ := hh
      obtain ⟨q, H2⟩ := cond_ok H
      simp only [Bool.and_eq_true] at q
      have q1 := beqN q.1.1.1; have q2 := beqN q.1.1.2; have q3 := beqN q.1.2; have q4 := q.2
      subst q1; subst q2
      have hxs : (cond (Nat.beq off 0) xs (xs.drop off)) = xs.drop off := by
        cases hq : Nat.beq off 0 with
        | false => rfl
        | true => have := beqN hq; subst this; rfl
      rw [hxs] at H2
      by_cases hroom : len + m ≤ cap
      · exact ⟨_, _, bufC_in g f hu hu' he hce hob hroom q3 ha hy hys hym hynk, H2⟩
      · have hsub : xs.drop off = sub xs off (len * sz'') := by
          unfold sub; rw [List.take_of_length_le (by simp; omega)]
        have hdl := length_sub xs off (len * sz'') (by omega)
        have haddr : len = 0 ∨ a = some ⟨b, E.base old + off, none⟩ := by
          refine (Nat.eq_zero_or_pos len).imp id fun hp => ?_
          obtain ⟨b', hb', ha', _⟩ := ha.resolve_left (by omega)
          have : b' = b := by rw [h1] at hb'; exact (Option.some.inj hb').symm
          rw [ha', this]
        have hold := olds (P := P) (cap := cap) (sz := P.cellsOf e) h4 (by rw [hce]; omega) haddr
        rw [hsub] at H2
        exact ⟨_, _, outC (g.kill f old).1 (g.kill f old).2 hu hu' hce hz (by omega) q4 hold (by simp [hce]; omega) (by rw [hce]; exact cells_extract h7 h3 (by omega) h6) hdl (h7k.sub _ _) hy hys hym hynk, H2⟩
    · next n xs hob =>
      rw [hob] at hh
      obtain ⟨b, cs, tt, fr, h1, h2, h3, h4, h5, h6, h7, h8⟩ := hh
      split at H
      · next c =>
        have hcc := hcap c rfl
        subst hcc
        obtain ⟨q, H2⟩ := cond_ok H
        simp only [Bool.and_eq_true] at q
        have q1 := beqN q.1.1.1.1; have q2 := bleN q.1.1.1.2; have q3 := bltN q.1.1.2; have q4 := q.1.2; have q5 := q.2
        subst q1
        have hdl := length_sub xs off (len * sz') (by omega)
        have haddr : len = 0 ∨ a = some ⟨b, E.base old + off, none⟩ := by
          refine (Nat.eq_zero_or_pos len).imp id fun hp => ?_
          obtain ⟨b', hb', ha', _⟩ := ha.resolve_left (by omega)
          have : b' = b := by rw [h1] at hb'; exact (Option.some.inj hb').symm
          rw [ha', this]
        have hold := olds (P := P) (cap := cap) (sz := P.cellsOf e) h5 (by rw [hce]; omega) haddr
        have h8' : Cells E xs cs (E.base old) := by rw [h2]; exact h8
        exact ⟨_, _, outC g f hu hu' hce hz q3 q4 hold (by simp [hce]; omega) (by rw [hce]; exact cells_extract h8' h4 (by omega) (by omega)) hdl (.of_all q5) hy hys hym hynk, H2⟩
      · exact H.elim
    · exact H.elim
  · exact H.elim

/-- The bytes of a string, as append reads them. -/
theorem str_src (s : ByteArray) (w : World) : ∃ new, Src P 1 w (.string s) s.size new ∧ Ints .u8 (s.data.toList.map fun b => (b.toNat : Int)) new 0 := by
  have hx : ∀ w' : World, (Builtin.firstCells 1 s.size (.string s)).run P w' = .ok (s.data.map fun b => Value.int .u8 b.toNat) w' := by
    intro w'
    simp only [Builtin.firstCells, Sem.run_pure]
    congr 1
    have hs : s.size = s.data.size := rfl
    rw [show (s.extract 0 s.size) = s by simp]
  refine ⟨_, ⟨rfl, hx w, hx w.drew, by simp, ?_⟩, ?_⟩
  · intro v hv
    simp only [Array.toList_map, List.mem_map] at hv
    obtain ⟨b, _, rfl⟩ := hv
    rfl
  · intro j x hj
    simp only [List.getElem?_map, Option.map_eq_some_iff] at hj
    obtain ⟨b, hb, rfl⟩ := hj
    rw [Nat.zero_add, Array.getElem?_map]
    rw [Array.getElem?_toList] at hb
    rw [hb]
    rfl

theorem append_ok {E : Env} {F : Fr} {h : Heap} {nx : Nat} {w : World} {Φ : Post} {t t' ty : TypeId} {x y : AV} {vx vy : Value} {k : AV → Heap → T} (g : Good E h nx w) (f : Framed F E h w) (hx : VRel E x vx) (hy : VRel E y vy)
    (H : TOk Φ (appendA P T.fail t t' h x y nx k)) : ∃ a h', Out P E F w (Builtin.append_ #[t, t'] ty #[vx, vy]) a h' (nx + 1) ∧ TOk Φ (k a h') := by
  unfold appendA at H
  split at H
  · next e cx cy hu =>
    cases hx with | one _ _ hx =>
    cases hy with | one _ _ hy =>
    cases hk : kindOf P e with
    | some kd =>
      simp only [hk] at H
      obtain ⟨q, H2⟩ := cond_ok H
      simp only [Bool.and_eq_true] at q
      split at H2
      · next s =>
        cases hy
        obtain ⟨q2, H3⟩ := cond_ok H2
        have e1 := beqK q2
        subst e1
        obtain ⟨new, s1, s2⟩ := str_src (P := P) s w
        exact appendI_ok g f hu q.2 hk q.1 hx s1 s2 (by simp) H3
      · obtain ⟨n, xs, r1, r2⟩ := readI_ok g hy H2
        obtain ⟨new, s1, s2⟩ := r1.src (P := P)
        exact appendI_ok g f hu q.2 hk q.1 hx s1 s2 r1.1 r2
    | none =>
      simp only [hk] at H
      obtain ⟨q, H2⟩ := cond_ok H
      simp only [Bool.and_eq_true] at q
      obtain ⟨n, xs, r1, r2⟩ := readC_ok g hy (bltN q.1.2) H2
      obtain ⟨new, s1, s2⟩ := r1.src (P := P)
      have he : tyOk P e = true := by obtain ⟨i, hi⟩ := info_of_cells (bltN q.1.2); simp [tyOk, hi]
      exact appendC_ok g f hu q.2 he rfl q.1.1 hx s1 s2 r1.1 r2.1 r2.2
  · exact H.elim

end
end Go.Ab

/- The abstract machine: the other operations. -/
namespace Go.Ab
section
variable {P : Program}

theorem len_ok {E : Env} {w : World} {Φ : Post} {t ty : TypeId} {x : AV} {vx : Value} {k : Nat → T} (hx : VRel E x vx) (H : TOk Φ (lenA P T.fail t x k)) :
    ∃ n : Nat, (Builtin.len_ #[t] ty #[vx]).run P w = .ok (.int .i64 n) w ∧ TOk Φ (k n) := by
  unfold lenA at H
  split at H
  · next hu => cases hx with | one _ _ hx => cases hx; exact ⟨0, by simp [Builtin.len_, run_underlying hu, goInt], H⟩
  · next hu => cases hx with | one _ _ hx => cases hx; exact ⟨0, by simp [Builtin.len_, run_underlying hu, goInt], H⟩
  · next hu => cases hx with | one _ _ hx => cases hx; exact ⟨0, by simp [Builtin.len_, run_underlying hu, goInt], H⟩
  · next hu => cases hx with | one _ _ hx => cases hx; exact ⟨_, by simp [Builtin.len_, run_underlying hu, goInt], H⟩
  · next hu => cases hx with | one _ _ hx => cases hx; exact ⟨_, by simp [Builtin.len_, run_underlying hu, goInt], H⟩
  · next hu => cases hx with | one _ _ hx => cases hx <;> exact ⟨_, by simp [Builtin.len_, run_underlying hu, goInt], H⟩
  · next hu => cases hx with | one _ _ hx => cases hx; exact ⟨_, by simp [Builtin.len_, run_underlying hu, goInt], H⟩
  · next hu => exact ⟨_, by simp [Builtin.len_, run_underlying hu, goInt], H⟩
  · exact H.elim

theorem loop_bytes (w : World) : ∀ (l : List Value) (xs : List Int) (s : ByteArray), l = xs.map (Value.int .u8) →
    (forIn l s (fun c r => (match c with | .int .u8 n => pure (ForInStep.yield (r.push (UInt8.ofNat n.toNat))) | _ => do stuck "bytesToString: byte expected"; pure (ForInStep.yield r) : Sem (ForInStep ByteArray)))).run P w = .ok ⟨s.data ++ (xs.map fun n => UInt8.ofNat n.toNat).toArray⟩ w
  | [], xs, s, h => by
    cases xs with
    | nil => simp
    | cons x xs => simp at h
  | v :: l, xs, s, h => by
    cases xs with
    | nil => simp at h
    | cons x xs =>
      simp only [List.map_cons, List.cons.injEq] at h
      obtain ⟨rfl, h⟩ := h
      simp only [List.forIn_cons, Sem.run_bind, Sem.run_pure, Result.andThen_ok]
      rw [loop_bytes w l xs _ h]
      congr 2
      apply Array.ext'
      simp [ByteArray.push]

theorem bytesToString_ok {w : World} {v : Value} {n : Nat} {xs : List Int} (h : Reads w .u8 v n xs) : (Conv.bytesToString v).run P w = .ok (.string (mkStr xs)) w := by
  obtain ⟨arr, h1, h2, h3⟩ := h.first (P := P) n (Nat.le_refl _)
  obtain ⟨hl, a, c, rfl, h⟩ := h
  rw [List.take_of_length_le (by omega)] at h3
  cases a with
  | none =>
    have h0 : n = 0 := by
      rcases h with h | ⟨b, o, cs, t, fr, h, _⟩
      · exact h
      · cases h
    subst h0
    have : xs = [] := List.eq_nil_of_length_eq_zero hl
    subst this
    rfl
  | some a =>
    have hla : (loadCells a n).run P w = .ok arr w := by
      have : (Builtin.firstCells 1 n (.slice (some a) n c)).run P w = (loadCells a n).run P w := by simp only [Builtin.firstCells, Nat.mul_one]
      rw [← this]; exact h1
    have harr : arr.toList = xs.map (Value.int .u8) := by
      apply List.ext_getElem?
      intro j
      by_cases hj : j < xs.length
      · have := h3 j _ (List.getElem?_eq_getElem hj)
        rw [Nat.zero_add] at this
        rw [Array.getElem?_toList, this]
        simp [hj]
      · rw [List.getElem?_eq_none (by simp; omega), List.getElem?_eq_none (by simp; omega)]
    simp only [Conv.bytesToString, Sem.run_bind, hla, Result.andThen_ok]
    rw [← Array.forIn_toList]
    have := loop_bytes (P := P) w arr.toList xs ByteArray.empty harr
    refine Eq.trans (congrArg (fun r : Result ByteArray => r.andThen fun a w' => Sem.run P (pure (Value.string a)) w') this) ?_
    simp only [Result.andThen_ok, Sem.run_pure, mkStr]
    congr 2
    simp

theorem convert_ok {E : Env} {h : Heap} {nx : Nat} {w : World} {Φ : Post} {src dst : TypeId} {x : AV} {vx : Value} {k : AV → T} (g : Good E h nx w) (hx : VRel E x vx) (H : TOk Φ (convertA P T.fail src dst x h k)) :
    ∃ a, Val P E w (convert src dst vx) a ∧ TOk Φ (k a) := by
  unfold convertA at H
  split at H
  · next ks kd hs hd =>
    split at H
    · next k' n =>
      cases hx with | one _ _ hx =>
      cases hx
      exact ⟨_, ⟨_, by simp [convert, run_underlying hs, run_underlying hd, Conv.intToInt], .one _ _ (.int _ _)⟩, H⟩
    · exact H.elim
  · next e hs hd =>
    split at H
    · next c hk =>
      cases hx with | one _ _ hx =>
      obtain ⟨n, xs, h1, h2⟩ := readI_ok g hx H
      obtain ⟨hue, hce⟩ := kindOf_spec hk
      refine ⟨_, ⟨_, ?_, .one _ _ (.str _)⟩, h2⟩
      obtain ⟨_, a, cc, rfl, _⟩ := id h1
      cases a <;> simp [convert, run_underlying hs, run_underlying hd, run_underlying hue, bytesToString_ok h1]
    · exact H.elim
  · exact H.elim

/-! ### Maps with integers as keys -/

theorem findNow_ok {E : Env} {kd : IntKind} {x : Int} : ∀ (es : List (Int × AV)) (ents : List MapEntry) (s : Nat), ents.length = es.length →
    (∀ (j : Nat) (i : Int) (v : AV), es[j]? = some (i, v) → ∃ e : MapEntry, ents[j]? = some e ∧ e.key = .int kd i ∧ VRel E v e.val) →
    (mlook x es = none ∧ Instr.findNow (.int kd) (.int kd x) ents s = some none) ∨ ∃ v j u, mlook x es = some v ∧ Instr.findNow (.int kd) (.int kd x) ents s = some (some (j, u)) ∧ VRel E v u
  | [], ents, s, hl, _ => by
    have : ents = [] := List.eq_nil_of_length_eq_zero (by simpa using hl)
    subst this
    exact .inl ⟨rfl, rfl⟩
  | (i, v) :: es, ents, s, hl, h => by
    cases ents with
    | nil => simp at hl
    | cons e ents =>
      obtain ⟨e', h1, h2, h3⟩ := h 0 i v rfl
      simp at h1
      subst h1
      by_cases hq : i = x
      · subst hq
        exact .inr ⟨v, s, e.val, by simp [mlook], by simp [Instr.findNow, Instr.sameNow, h2], h3⟩
      · have ih := findNow_ok (x := x) es ents (s + 1) (by simpa using hl) (fun j i v hj => by simpa using h (j + 1) i v (by simpa using hj))
        have e1 : mlook x ((i, v) :: es) = mlook x es := by simp [mlook, hq]
        have e2 : Instr.findNow (.int kd) (.int kd x) (e :: ents) s = Instr.findNow (.int kd) (.int kd x) ents (s + 1) := by
          have : (x == i) = false := by simpa using fun h => hq h.symm
          simp [Instr.findNow, Instr.sameNow, h2, this]
        rw [e1, e2]
        exact ih

theorem run_checkKey {w : World} {kt : TypeId} {kd kd' : IntKind} {x : Int} {b : Bool} (hu : P.underlying kt = some (.int kd)) : ∀ d, (Instr.checkKey b (d + 1) kt (.int kd' x)).run P w = .ok () w := fun d => by
  simp [Instr.checkKey, run_underlying hu]

/-- What an operation comes to, as an operation. -/
def OutN (P : Program) (E : Env) (F : Fr) (w : World) (nx : Nat) (wb : Bool) (s : Sem Next) (a : AV) (h' : Heap) (nx' : Nat) : Prop :=
  ∃ v w' E', (s.run P w = .ok (.value v) w' ∨ (s.run P w = .ok .skip w' ∧ v = undef)) ∧ E.le E' ∧ VRel E' a v ∧ Good E' h' nx' w' ∧ Framed F E' h' w' ∧ (wb = true ∨ Kept E E' nx w w')

theorem undef_ok (E : Env) : VRel E (.tup []) undef := .tup [] #[] rfl (fun j a u hj => by simp at hj)

theorem Val.out {E : Env} {F : Fr} {h : Heap} {nx : Nat} {w : World} {s : Sem Value} {a : AV} (hv : Val P E w s a) (g : Good E h nx w) (f : Framed F E h w) : ∀ {wb : Bool}, OutN P E F w nx wb (do pure (.value (← s))) a h nx := by
  obtain ⟨v, h1, h2⟩ := hv
  intro wb
  exact ⟨v, w, E, .inl (by simp [h1]), Env.le_refl E, h2, g, f, .inr (kept_refl g)⟩

theorem insert_ok {E : Env} {F : Fr} {h : Heap} {nx : Nat} {w : World} {t kt e : TypeId} {kd : IntKind} {key b : Nat} {x : Int} {es : List (Int × AV)} {v : AV} {vv : Value} (g : Good E h nx w) (f : Framed F E h w) (hu : P.underlying t = some (.map kt e)) (hkt : P.underlying kt = some (.int kd))
    (hb : E.blk key = some b) (hob : hget h key = .mapi es kd) (hno : mlook x es = none) (hv : VRel E v vv) :
    ∃ w', (Instr.mapUpdate t (.map (some b)) (.int kd x) vv).run P w = .ok () w' ∧ Good E (hset h key (.mapi (es ++ [(x, v)]) kd)) nx w' ∧ Framed F E (hset h key (.mapi (es ++ [(x, v)]) kd)) w' := by
  have hl : (hget h key).live := by rw [hob]; trivial
  have hh := g.holds key
  rw [hob] at hh
  obtain ⟨b', ents, clock, h1, h2, h3, h4⟩ := hh
  have : b' = b := by rw [hb] at h1; exact (Option.some.inj h1).symm
  subst this
  have hlt : b' < w.heap.size := g.lt hl h1
  obtain ⟨_, hf⟩ := (findNow_ok (E := E) (kd := kd) (x := x) es ents.toList 0 (by simpa using h3) (fun j i v hj => by simpa using h4 j i v hj)).resolve_right (by rintro ⟨v, j, u, h, _⟩; rw [hno] at h; cases h)
  have hk : (Instr.findKey kt (.int kd x) ents.toList).run P w = .ok none w := by
    simp [Instr.findKey, run_underlying hkt, hf]
  have hck : (Instr.checkKey false 10000 kt (.int kd x)).run P w = .ok () w := run_checkKey hkt 9999
  have hget : (getObj b').run P w = .ok (.map ents clock) w := by simp [getObj, Sem.run, h2]
  let o' : Obj := .map (ents.push { key := .int kd x, val := vv, born := clock }) (clock + 1)
  let w' : World := { w with heap := w.heap.setIfInBounds b' o' }
  have hset' : (setObj b' o').run P w = .ok () w' := by simp [setObj, Sem.run, h2, w']
  have hnew : w'.heap[b']? = some o' := by simp [w', hlt]
  refine ⟨w', ?_, ?_⟩
  · simp only [Instr.mapUpdate, Sem.run_bind, run_underlying hu, Result.andThen_ok, hget, hck, hk]
    exact hset'
  · refine g.update (w' := w') f hl h1 (fun b'' hne => ?_) (Array.size_setIfInBounds ..) rfl rfl rfl (o := .mapi (es ++ [(x, v)]) kd) ⟨b', _, _, h1, hnew, by simp [h3], ?_⟩
    · simp [w', Array.getElem?_setIfInBounds_ne (Ne.symm hne)]
    · intro j i v' hj
      by_cases hjl : j < es.length
      · rw [List.getElem?_append_left hjl] at hj
        obtain ⟨e, q1, q2, q3⟩ := h4 j i v' hj
        exact ⟨e, by rw [Array.getElem?_push, if_neg (by omega)]; exact q1, q2, q3⟩
      · rw [List.getElem?_append_right (by omega)] at hj
        have hj0 : j - es.length = 0 := by
          have := (List.getElem?_eq_some_iff.1 hj).1
          simp at this; omega
        rw [hj0] at hj
        simp at hj
        obtain ⟨rfl, rfl⟩ := hj
        exact ⟨_, by rw [Array.getElem?_push, if_pos (by omega)], rfl, hv⟩

theorem lookup_ok {E : Env} {h : Heap} {nx : Nat} {w : World} {Φ : Post} {t kt e : TypeId} {kd : IntKind} {key b : Nat} {x : Int} {es : List (Int × AV)} {ok : Bool} {k : AV → T} (g : Good E h nx w) (hu : P.underlying t = some (.map kt e)) (hkt : P.underlying kt = some (.int kd))
    (hb : E.blk key = some b) (hob : hget h key = .mapi es kd) (H : TOk Φ (match mlook x es with
          | some v => k (cond ok (.tup [v, .one (.bool true)]) v)
          | none => match zeroOf P e with
            | some z => k (cond ok (.tup [z, .one (.bool false)]) z)
            | none => .fail "lookup: zero")) :
    ∃ a, Val P E w (Instr.lookup t (.map (some b)) (.int kd x) ok) a ∧ TOk Φ (k a) := by
  have hh := g.holds key
  rw [hob] at hh
  obtain ⟨b', ents, clock, h1, h2, h3, h4⟩ := hh
  have : b' = b := by rw [hb] at h1; exact (Option.some.inj h1).symm
  subst this
  have hck : (Instr.checkKey ents.isEmpty 10000 kt (.int kd x)).run P w = .ok () w := run_checkKey hkt 9999
  have hget : (getObj b').run P w = .ok (.map ents clock) w := by simp [getObj, Sem.run, h2]
  have two : ∀ {a b : AV} {u v : Value}, VRel E a u → VRel E b v → VRel E (.tup [a, b]) (.tuple #[u, v]) := by
    intro a b u v ha hb
    refine .tup _ _ rfl fun j a' u' hj hj' => ?_
    match j with
    | 0 => simp at hj hj'; subst hj; subst hj'; exact ha
    | 1 => simp at hj hj'; subst hj; subst hj'; exact hb
    | j + 2 => simp at hj
  rcases findNow_ok (E := E) (kd := kd) (x := x) es ents.toList 0 (by simpa using h3) (fun j i v hj => by simpa using h4 j i v hj) with ⟨hm, hf⟩ | ⟨v, j, u, hm, hf, hv⟩
  · rw [hm] at H
    cases hz : zeroOf P e with
    | none => rw [hz] at H; exact H.elim
    | some z =>
      rw [hz] at H
      obtain ⟨zv, hzr, hzv, _⟩ := zeroOf_ok (E := E) hz w
      have hk : (Instr.findKey kt (.int kd x) ents.toList).run P w = .ok none w := by simp [Instr.findKey, run_underlying hkt, hf]
      refine ⟨_, ⟨if ok then .tuple #[zv, .bool false] else zv, ?_, ?_⟩, H⟩
      · simp only [Instr.lookup, Sem.run_bind, run_underlying hu, Result.andThen_ok, hget, Sem.run_pure, hck, hk, hzr]
      · cases ok
        · exact hzv
        · exact two hzv (.one _ _ (.bool _))
  · rw [hm] at H
    have hk : (Instr.findKey kt (.int kd x) ents.toList).run P w = .ok (some (j, u)) w := by simp [Instr.findKey, run_underlying hkt, hf]
    refine ⟨_, ⟨if ok then .tuple #[u, .bool true] else u, ?_, ?_⟩, H⟩
    · simp only [Instr.lookup, Sem.run_bind, run_underlying hu, Result.andThen_ok, hget, Sem.run_pure, hck, hk]
    · cases ok
      · exact hv
      · exact two hv (.one _ _ (.bool _))

theorem makeMap_ok {E : Env} {F : Fr} {h : Heap} {nx : Nat} {w : World} (t : TypeId) (kd : IntKind) (g : Good E h nx w) (f : Framed F E h w) : New P E F h nx w (Instr.makeMap t none) (.one (.mp nx)) (.mapi [] kd) := by
  have hb : (E.new nx w.heap.size 0).blk nx = some w.heap.size := by simp [Env.new]
  obtain ⟨a1, a2, a3⟩ := g.alloc f (.map #[] 0) (.mapi [] kd) 0 ⟨w.heap.size, #[], 0, hb, heap_alloc_new w _, rfl, fun j i v hj => by simp at hj⟩
  exact ⟨_, _, _, rfl, a1, .one _ _ (.mp _ _ hb), a2, a3, kept_new g _ _⟩

end
end Go.Ab

/- The abstract machine: copy, and the small operations. -/
namespace Go.Ab
section
variable {P : Program}

theorem store_row {w : World} {b o n : Nat} {a : Option Addr} {cur arr : Array Value} {ty : TypeId} {fr : Nat × Nat} (hg : w.heap[b]? = some (.cells cur ty fr)) (hf : Free fr cur.size) (hn : arr.size = n) (hl : o + n ≤ cur.size)
    (h1 : ∀ x ∈ arr.toList, x.oneCell' = true) (ha : n = 0 ∨ a = some ⟨b, o, none⟩) :
    ∃ c', (match a with | some a => storeCells a arr.toList | none => pure () : Sem Unit).run P w = .ok () (w.setRow b c') ∧ c'.size = cur.size ∧
      ∀ j, c'[j]? = if j < o then cur[j]? else if j < o + arr.size then arr[j - o]? else cur[j]? := by
  by_cases h0 : n = 0
  · have h0' : arr = #[] := Array.eq_empty_of_size_eq_zero (by omega)
    subst h0'
    refine ⟨cur, ?_, rfl, fun j => ?_⟩
    · rw [setRow_self w b cur ty fr hg]
      cases a <;> rfl
    · split
      · rfl
      · rw [if_neg (by simp; omega)]
  · have ha := ha.resolve_left h0
    subst ha
    obtain ⟨c', hr, hs, hj⟩ := run_storeCells_row (P := P) b o ty fr arr.toList 0 cur w hg hf (by simp; omega) h1
    exact ⟨c', hr, hs, fun j => by simpa using hj j⟩

theorem copy_ok {E : Env} {F : Fr} {h : Heap} {nx : Nat} {w : World} {Φ : Post} {t ty t' : TypeId} {x y : AV} {vx vy : Value} {k : AV → Heap → T} (g : Good E h nx w) (f : Framed F E h w) (hx : VRel E x vx) (hy : VRel E y vy)
    (H : TOk Φ (copyA P T.fail t h x y k)) : ∃ a h', Out P E F w (Builtin.copy_ #[t, t'] ty #[vx, vy]) a h' nx ∧ TOk Φ (k a h') := by
  unfold copyA at H
  split at H
  · next e cx cy hu =>
    cases hx with | one _ _ hx =>
    cases hy with | one _ _ hy =>
    split at H
    · next kd hk =>
      obtain ⟨hue, hce⟩ := kindOf_spec hk
      obtain ⟨m, ys, hR, H'⟩ := readI_ok g hy H
      clear H
      have hlen : (Builtin.lenOf vy).run P w = .ok m w := by
        obtain ⟨_, a, c, rfl, _⟩ := hR; rfl
      have hyl : ys.length = m := hR.1
      split at H'
      · cases hx
        obtain ⟨arr, r1, r2, r3⟩ := hR.first (P := P) 0 (by omega)
        refine ⟨_, _, ⟨_, w, E, ?_, Env.le_refl E, .one _ _ (.int _ _), g, f⟩, H'⟩
        simp [Builtin.copy_, run_underlying hu, hlen, run_sizeOf hue, hce, r1, goInt]
      · cases hx with | emp a0 =>
        obtain ⟨arr, r1, r2, r3⟩ := hR.first (P := P) 0 (by omega)
        have harr : arr = #[] := Array.eq_empty_of_size_eq_zero (by omega)
        subst harr
        refine ⟨_, _, ⟨_, w, E, ?_, Env.le_refl E, .one _ _ (.int _ _), g, f⟩, H'⟩
        cases a0 <;> simp [Builtin.copy_, run_underlying hu, hlen, run_sizeOf hue, hce, r1, goInt, storeCells]
      · next key off len sz cap =>
        cases hx with | sl _ _ _ _ _ a c hl hc ha =>
        have hh := g.holds key
        have hlv : ∀ o, hget h key = o → o.live → (hget h key).live := fun o e hl => e ▸ hl
        -- what is written, and where
        split at H'
        · next kd' n xs hob =>
          obtain ⟨H1, H2⟩ := cond_ok H'
          simp only [Bool.and_eq_true] at H1
          have e := beqK H1.1.1; have hsz := beqN H1.1.2; have hle := bleN H1.2
          subst e; subst hsz
          rw [hob] at hh
          have hlive := hlv _ hob trivial
          obtain ⟨b, cs, tt, fr, q1, q2, q3, q4, q5, q6, q7, q8⟩ := hh
          have hadr : c = 0 ∨ a = some ⟨b, off, none⟩ := ha.imp id (by
            rintro ⟨b', z1, z2, _⟩
            rw [q1] at z1; cases z1
            rw [z2, q2, Nat.zero_add])
          have main : ∀ q, q ≤ m → q ≤ len → Nat.min m len = q → Out P E F w (Builtin.copy_ #[t, t'] ty #[.slice a len c, vy]) (.one (.int .i64 (q : Int))) (hset h key (.arri kd n (splice xs off (ys.take q)))) nx := by
            intro q hq1 hq2 hqm
            obtain ⟨arr, r1, r2, r3⟩ := hR.first (P := P) q hq1
            have htl : (ys.take q).length = q := by simp; omega
            obtain ⟨c', s1, s2, s3⟩ := store_row (P := P) (a := a) q5 q6 r2 (o := off) (by omega) (Ints.mem_one r3 (by omega)) (hadr.imp (fun h => by omega) id)
            obtain ⟨g', f'⟩ := setRow_keeps (c' := c') (o := .arri kd n (splice xs off (ys.take q))) g f hlive q1
              ⟨b, c', tt, fr, q1, q2, q3, by rw [length_splice _ _ _ (by omega)]; exact q4, setRow_heap w b cs c' tt fr q5, by rw [s2]; exact q6, by omega,
                Ints.splice 0 q8 r3 (by omega) (by omega) (fun j => by simpa using s3 j)⟩
            refine ⟨_, _, E, ?_, Env.le_refl E, .one _ _ (.int _ _), g', f'⟩
            have s1' := s1
            simp [Builtin.copy_, run_underlying hu, hlen, run_sizeOf hue, hce, hqm, r1, goInt]
            cases a with
            | none => simp only [Sem.run_pure] at s1; simp [← (Result.ok.inj s1).2]
            | some a => simp only at s1; simp [s1]
          cases hq : Nat.ble m len with
          | true =>
            rw [hq] at H2
            have hq' := bleN hq
            have e2 : (cond (Nat.beq off 0 && Nat.beq m n) ys (splice xs off ys)) = splice xs off (ys.take m) := by
              rw [List.take_of_length_le (by omega)]
              cases hq : (Nat.beq off 0 && Nat.beq m n) with
              | false => rfl
              | true =>
                simp only [Bool.and_eq_true] at hq
                have e1 := beqN hq.1; have e2 := beqN hq.2
                subst e1
                exact (splice_all xs ys (by omega)).symm
            rw [e2] at H2
            exact ⟨_, _, main m (Nat.le_refl m) hq' (Nat.min_eq_left hq'), H2⟩
          | false =>
            rw [hq] at H2
            have hq' : len ≤ m := by
              by_cases hh : m ≤ len
              · rw [Nat.ble_eq_true_of_le hh] at hq; cases hq
              · omega
            exact ⟨_, _, main len hq' (Nat.le_refl len) (Nat.min_eq_right hq'), H2⟩
        · next n ds hob =>
          obtain ⟨H1, H2⟩ := cond_ok H'
          simp only [Bool.and_eq_true] at H1
          have hsz := beqN H1.1.1; have hle := bleN H1.1.2; have hml := bleN H1.2
          subst hsz
          rw [hob] at hh
          have hlive := hlv _ hob trivial
          obtain ⟨b, cs, tt, fr, q1, q2, q3, q4, q5, q6, q7, q8⟩ := hh
          have hadr : c = 0 ∨ a = some ⟨b, off, none⟩ := ha.imp id (by
            rintro ⟨b', z1, z2, _⟩
            rw [q1] at z1; cases z1
            rw [z2, q2, Nat.zero_add])
          obtain ⟨arr, r1, r2, r3⟩ := hR.first (P := P) m (Nat.le_refl m)
          rw [List.take_of_length_le (by omega)] at r3
          have hqm : Nat.min m len = m := Nat.min_eq_left hml
          obtain ⟨c', s1, s2, s3⟩ := store_row (P := P) (a := a) q5 q6 r2 (o := off) (by omega) (Ints.mem_one r3 (by omega)) (hadr.imp (fun h => by omega) id)
          obtain ⟨g', f'⟩ := setRow_keeps (c' := c') (o := .arrc n (splice ds off (ys.map (AC.int kd)))) g f hlive q1
              ⟨b, c', tt, fr, q1, q2, q3, by rw [length_splice _ _ _ (by simp; omega)]; exact q4, setRow_heap w b cs c' tt fr q5, by rw [s2]; exact q6, by omega,
                Cells.splice q8 (ints_cells r3) (by simp; omega) (by simp; omega) (fun j => by simpa using s3 j)⟩
          refine ⟨_, _, ⟨_, _, E, ?_, Env.le_refl E, .one _ _ (.int _ _), g', f'⟩, H2⟩
          simp [Builtin.copy_, run_underlying hu, hlen, run_sizeOf hue, hce, hqm, r1, goInt]
          cases a with
          | none => simp only [Sem.run_pure] at s1; simp [← (Result.ok.inj s1).2]
          | some a => simp only at s1; simp [s1]
        · exact H'.elim
      · exact H'.elim
    · exact H.elim
  · exact H.elim
end
end Go.Ab

/- The abstract machine: every operation. -/
namespace Go.Ab
section
variable {P : Program}

/-- The operands are as they are said to be. -/
def EvRel (E : Env) (ev : Operand → AV) (ρ : Operand → Value) (o : Op) : Prop := ∀ x ∈ o.operands, VRel E (ev x) (ρ x)

theorem parts_ok {E : Env} {ev : Operand → AV} {ρ : Operand → Value} (ps : Array (Nat × Operand)) (h : ∀ p ∈ ps, VRel E (ev p.2) (ρ p.2)) :
    PartsRel E (ps.toList.map fun p => (p.1, ev p.2)) ((ps.map fun p => (p.1, ρ p.2)).toList) := by
  refine ⟨by simp, fun j a v ha hv => ?_⟩
  simp only [Array.toList_map, List.getElem?_map, Option.map_eq_some_iff] at ha hv
  obtain ⟨p, hp, rfl⟩ := ha
  obtain ⟨q, hq, rfl⟩ := hv
  rw [hp] at hq; cases hq
  exact ⟨rfl, h p (by simpa using List.mem_of_getElem? hp)⟩

theorem orel_ok {E : Env} {ev : Operand → AV} {ρ : Operand → Value} (x : Option Operand) (h : ∀ y, x = some y → VRel E (ev y) (ρ y)) : ORel E (x.map ev) (x.map ρ) := by
  cases x with
  | none => trivial
  | some y => exact h y rfl

theorem caps_ok {E : Env} {ev : Operand → AV} {ρ : Operand → Value} : ∀ (l : List Operand) (cs : List AC), l.mapM (fun c => oneOf (ev c)) = some cs → (∀ x ∈ l, VRel E (ev x) (ρ x)) →
    cs.length = l.length ∧ ∀ (j : Nat) (c : AC), cs[j]? = some c → ∃ x : Operand, l[j]? = some x ∧ CRel E c (ρ x)
  | [], cs, h, _ => by simp at h; subst h; exact ⟨rfl, fun j c h => by simp at h⟩
  | x :: l, cs, h, hv => by
    simp only [List.mapM_cons, Option.bind_eq_bind, Option.bind_eq_some_iff, Option.pure_def, Option.some.injEq] at h
    obtain ⟨c, h1, cs', h2, rfl⟩ := h
    obtain ⟨e1, e2⟩ := caps_ok l cs' h2 (fun y hy => hv y (by simp [hy]))
    refine ⟨by simp [e1], fun j d hj => ?_⟩
    cases j with
    | zero =>
      simp at hj; subst hj
      have := hv x (by simp)
      unfold oneOf at h1
      split at h1
      · next c' he =>
        cases h1
        rw [he] at this
        cases this with | one _ _ h => exact ⟨x, rfl, h⟩
      · cases h1
    | succ j => exact e2 j d (by simpa using hj)

/-- Does an operation change what was there? -/
def isW : Op → Bool
  | .store .. | .insert .. | .call { callee := .builtin .append, .. } | .call { callee := .builtin .copy, .. } => true
  | .convert s d _ => Nat.beq s d
  | _ => false

theorem convSl_ok {E : Env} {F : Fr} {h : Heap} {nx : Nat} {w : World} {Φ : Post} {t : TypeId} {x : AV} {vx : Value} {k : AV → T} (g : Good E h nx w) (f : Framed F E h w) (ht : isBytes P t = true) (hx : VRel E x vx) (H : TOk Φ (convSl T.fail x h k)) :
    ∃ w', (convert t t vx).run P w = .ok vx w' ∧ Good E h nx w' ∧ Framed F E h w' ∧ TOk Φ (k x) := by
  unfold isBytes at ht
  split at ht
  · next e hu =>
    have hke : kindOf P e = some .u8 := by simpa using ht
    obtain ⟨hue, _⟩ := kindOf_spec hke
    unfold convSl at H
    split at H
    · next key off len sz cap =>
      cases hx with | one _ _ hx =>
      cases hx with | sl _ _ _ _ _ a c hl hc ha =>
      split at H
      · next kd n xs hob =>
        obtain ⟨H1, H2⟩ := cond_ok H
        have hlen := bltN H1
        obtain ⟨b, hb, rfl, hs⟩ := ha.resolve_left (by omega)
        have hlive : (hget h key).live := by rw [hob]; trivial
        have hh := g.holds key
        rw [hob] at hh
        obtain ⟨b', cs, tt, fr, q1, q2, q3, q4, q5, q6, q7, q8⟩ := hh
        rw [hb] at q1; cases q1
        obtain ⟨lo, hi⟩ := fr
        let fr' : Nat × Nat := if lo == hi then (cs.size, cs.size + 1) else (min lo cs.size, max hi (cs.size + 1))
        let w' : World := w.freeze ⟨b, cs.size, none⟩ 1
        have hlt : b < w.heap.size := g.lt hlive hb
        have hnew : w'.heap[b]? = some (.cells cs tt fr') := by
          simp only [w', World.freeze, Nat.one_ne_zero, if_false]
          rw [Array.getElem?_modify, if_pos rfl, q5]
          rfl
        have hold : ∀ b', b' ≠ b → w'.heap[b']? = w.heap[b']? := fun b' hne => by
          simp only [w', World.freeze, Nat.one_ne_zero, if_false]
          rw [Array.getElem?_modify, if_neg (Ne.symm hne)]
        have hfree : Free fr' cs.size := by
          simp only [fr']
          split
          · exact .inr (Nat.le_refl _)
          · next hne =>
            have hq : ¬ lo = hi := by simpa using hne
            have := q6.resolve_left hq
            exact .inr (by simp only at this ⊢; omega)
        obtain ⟨g', f'⟩ := g.update (w' := w') (o := .arri kd n xs) f hlive hb hold (by simp [w', World.freeze]) (by simp [w', World.freeze]) (by simp [w', World.freeze]) (by simp [w', World.freeze]) ⟨b, cs, tt, fr', hb, q2, q3, q4, hnew, hfree, q7, q8⟩
        have same : ∀ k, hget (hset h key (.arri kd n xs)) k = hget h k := fun k => by
          rw [hget_hset]
          split
          · next e => subst e; exact hob.symm
          · rfl
        refine ⟨w', ?_, ⟨fun k => by rw [← same k]; exact g'.holds k, fun k k' b hl hl' => g'.inj k k' b (by rw [same]; exact hl) (by rw [same]; exact hl'), fun k b hl => g'.imm k b (by rw [same]; exact hl), g'.mem, g'.fresh⟩,
          ⟨f'.size, f'.old, fun k b hl => f'.own k b (by rw [same]; exact hl), f'.memNew, f'.os, f'.tape, f'.output⟩, H2⟩
        have hsh : w.shape? b = some (tt, cs.size) := by simp [World.shape?, q5]
        simp [convert, run_underlying hu, run_underlying hue, markStringish, hsh, w']
      · exact H.elim
    · exact H.elim
  · cases ht

theorem opA_ok {E : Env} {F : Fr} {h : Heap} {nx : Nat} {w : World} {Φ : Post} {o : Oper} {ev : Operand → AV} {ρ : Operand → Value} {k : AV → Heap → Nat → T} (g : Good E h nx w) (f : Framed F E h w) (hev : EvRel E ev ρ o.op)
    (H : TOk Φ (opA P o.op argTy ev h nx k)) : ∃ a h' nx', nx ≤ nx' ∧ OutN P E F w nx (isW o.op) (execOp ρ o) a h' nx' ∧ TOk Φ (k a h' nx') := by
  have val : ∀ {s : Sem Value} {a : AV}, Val P E w s a → ∀ {wb : Bool}, OutN P E F w nx wb (do pure (.value (← s))) a h nx := fun hv => hv.out g f
  have fk : ∀ {b : Bool}, Framed F E h w ∧ (b = true ∨ Kept E E nx w w) := ⟨f, .inr (kept_refl g)⟩
  have vin : ∀ {x : Operand}, x ∈ o.op.operands → VRel E (ev x) (ρ x) := fun hx => hev _ hx
  generalize ho : o.op = op at *
  cases op with
  | move x =>
    have hx := vin (x := x) (by simp [Op.operands])
    exact ⟨_, _, _, Nat.le_refl _, ⟨_, w, E, .inl (by simp [execOp, ho]), Env.le_refl E, hx, g, fk⟩, H⟩
  | assign x =>
    have hx := vin (x := x) (by simp [Op.operands])
    exact ⟨_, _, _, Nat.le_refl _, ⟨_, w, E, .inl (by simp [execOp, ho]), Env.le_refl E, hx, g, fk⟩, H⟩
  | pick c a b =>
    have hc := vin (x := c) (by simp [Op.operands])
    simp only [opA] at H
    split at H
    · next q he =>
      rw [he] at hc
      cases hc with | one _ _ hc =>
      generalize hv : ρ c = vc at hc
      cases hc
      cases q
      · exact ⟨_, _, _, Nat.le_refl _, ⟨_, w, E, .inl (by simp [execOp, ho, hv, asBool]), Env.le_refl E, vin (x := b) (by simp [Op.operands]), g, fk⟩, H⟩
      · exact ⟨_, _, _, Nat.le_refl _, ⟨_, w, E, .inl (by simp [execOp, ho, hv, asBool]), Env.le_refl E, vin (x := a) (by simp [Op.operands]), g, fk⟩, H⟩
    · exact H.elim
  | alloc t =>
    simp only [opA] at H
    cases hz : zeroOf P t with
    | none => rw [hz] at H; exact H.elim
    | some z =>
      rw [hz] at H
      obtain ⟨zv, hr, hzv, _⟩ := zeroOf_ok (E := E) hz w
      obtain ⟨ob, w', E', h1, h2, h3, h4, h5, h6, h7⟩ := box_ok g f hzv H
      refine ⟨_, _, _, Nat.le_succ _, ⟨_, w', E', .inl ?_, h2, .one _ _ (.ptr _ _ _ h3), h5, h6.1, .inr h6.2⟩, h7⟩
      simp [execOp, ho, Instr.alloc, hr, h1, h4]
  | box t x =>
    simp only [opA] at H
    obtain ⟨ob, w', E', h1, h2, h3, h4, h5, h6, h7⟩ := box_ok g f (vin (x := x) (by simp [Op.operands])) H
    refine ⟨_, _, _, Nat.le_succ _, ⟨_, w', E', .inl ?_, h2, .one _ _ (.ptr _ _ _ h3), h5, h6.1, .inr h6.2⟩, h7⟩
    simp [execOp, ho, Instr.box, h1, h4]
  | build t ps =>
    simp only [opA] at H
    obtain ⟨a, h1, h2⟩ := build_ok (w := w) (parts_ok (ev := ev) (ρ := ρ) ps (fun p hp => vin (by simp only [Op.operands]; simp; exact ⟨p.1, by simpa using hp⟩))) H
    refine ⟨_, _, _, Nat.le_refl _, ?_, h2⟩
    have := val h1 (wb := false)
    simpa [execOp, ho, isW] using this
  | buildSlice t n ps =>
    simp only [opA] at H
    obtain ⟨a, ob, h1, h2⟩ := buildSlice_ok g f (parts_ok (ev := ev) (ρ := ρ) ps (fun p hp => vin (by simp only [Op.operands]; simp; exact ⟨p.1, by simpa using hp⟩))) H
    obtain ⟨v, w', E', h3, h4⟩ := h1
    exact ⟨_, _, _, Nat.le_succ _, ⟨v, w', E', .inl (by simp [execOp, ho, h3]), h4.1, h4.2.1, h4.2.2.1, h4.2.2.2.1, .inr h4.2.2.2.2⟩, h2⟩
  | load t a =>
    have hx := vin (x := a) (by simp [Op.operands])
    simp only [opA] at H
    split at H
    · next key off he =>
      rw [he] at hx
      cases hx with | one _ _ hx =>
      generalize hv : ρ a = va at hx
      cases hx with | ptr _ _ b hb =>
      obtain ⟨r, v, h1, h2, h3⟩ := load_ok (w := w) g hb H
      exact ⟨_, _, _, Nat.le_refl _, ⟨v, w, E, .inl (by simp [execOp, ho, hv, Instr.loadAt, Instr.sureAddr, h1]), Env.le_refl E, h2, g, fk⟩, h3⟩
    · next kd n he =>
      rw [he] at hx
      cases hx with | one _ _ hx =>
      generalize hv : ρ a = va at hx
      cases hx with | pim _ _ b o m hm hu =>
      split at H
      · next kd' hk =>
        obtain ⟨H1, H2⟩ := cond_ok H
        have e := beqK H1
        subst e
        obtain ⟨hue, _⟩ := kindOf_spec hk
        obtain ⟨tt, fr, hb⟩ := g.mem b m hm
        have := run_loadVar_one (P := P) hue rfl (w := w) (a := ⟨b, o, none⟩) (v := .int kd n) (by rw [cell_at hb]; exact hu)
        exact ⟨_, _, _, Nat.le_refl _, ⟨_, w, E, .inl (by simp [execOp, ho, hv, Instr.loadAt, Instr.sureAddr, this]), Env.le_refl E, .one _ _ (.int _ _), g, fk⟩, H2⟩
      · exact H.elim
    · next cs he =>
      rw [he] at hx
      cases hx with | one _ _ hx =>
      generalize hv : ρ a = va at hx
      cases hx with | pic _ b o m us hm _ hu hr =>
      obtain ⟨H1, H2⟩ := cond_ok H
      have h0 := bltN H1
      obtain ⟨tt, fr, hb⟩ := g.mem b m hm
      have hc : Cells E cs m o := fun j c hj => ⟨us j, hu j c hj, hr j c hj⟩
      have hsz : o + cs.length ≤ m.size := by
        have := hu (cs.length - 1) _ (List.getElem?_eq_getElem (show cs.length - 1 < cs.length by omega))
        have := (Array.getElem?_eq_some_iff.1 this).1
        omega
      obtain ⟨r, v, h1, h2, h3⟩ := loadA_cells (P := P) (t := t) rfl hb hsz hc H2
      exact ⟨_, _, _, Nat.le_refl _, ⟨v, w, E, .inl (by simpa [execOp, ho, hv, Instr.loadAt, Instr.sureAddr] using congrArg (fun r => r.andThen fun v w' => Result.ok (Next.value v) w') h1), Env.le_refl E, h2, g, fk⟩, h3⟩
    · exact H.elim
  | store t a v =>
    have hx := vin (x := a) (by simp [Op.operands])
    have hvv := vin (x := v) (by simp [Op.operands])
    simp only [opA] at H
    split at H
    · next key off he =>
      rw [he] at hx
      cases hx with | one _ _ hx =>
      generalize hv : ρ a = va at hx
      cases hx with | ptr _ _ b hb =>
      obtain ⟨ob, w', h1, h2, h3, h4⟩ := store_ok g f hb hvv H
      exact ⟨_, _, _, Nat.le_refl _, ⟨undef, w', E, .inr ⟨by simp [execOp, ho, hv, Instr.storeAt, Instr.sureAddr, h1], rfl⟩, Env.le_refl E, undef_ok E, h2, h3, .inl rfl⟩, h4⟩
    · exact H.elim
  | nilCheck x =>
    have hx := vin (x := x) (by simp [Op.operands])
    simp only [opA] at H
    split at H <;> first
      | exact H.elim
      | (next he =>
          rw [he] at hx
          cases hx with | one _ _ hx =>
          have hx' := hx
          generalize hv : ρ x = va at hx
          cases hx <;> exact ⟨_, _, _, Nat.le_refl _, ⟨_, w, E, .inl (by simp [execOp, ho, hv]), Env.le_refl E, .one _ _ (hv ▸ hx'), g, fk⟩, H⟩)
  | binOp bop t x y yt =>
    simp only [opA] at H
    obtain ⟨a, h1, h2⟩ := bin_ok (w := w) x y (vin (x := x) (by simp [Op.operands])) (vin (x := y) (by simp [Op.operands])) H
    exact ⟨_, _, _, Nat.le_refl _, by have := val h1 (wb := false); simpa [execOp, ho, isW] using this, h2⟩
  | unOp uop t x =>
    simp only [opA] at H
    obtain ⟨a, h1, h2⟩ := un_ok (P := P) (w := w) (vin (x := x) (by simp [Op.operands])) H
    exact ⟨_, _, _, Nat.le_refl _, by have := val h1 (wb := false); simpa [execOp, ho, isW] using this, h2⟩
  | convert s d x =>
    simp only [opA] at H
    cases hsd : (Nat.beq s d && isBytes P s) with
    | false =>
      rw [hsd] at H
      simp only [cond_false] at H
      obtain ⟨a, h1, h2⟩ := convert_ok g (vin (x := x) (by simp [Op.operands])) H
      exact ⟨_, _, _, Nat.le_refl _, by have := val h1 (wb := Nat.beq s d); simpa [execOp, ho, isW] using this, h2⟩
    | true =>
      rw [hsd] at H
      simp only [cond_true] at H
      simp only [Bool.and_eq_true] at hsd
      have e := beqN hsd.1
      subst e
      obtain ⟨w', h1, h2, h3, h4⟩ := convSl_ok g f hsd.2 (vin (x := x) (by simp [Op.operands])) H
      exact ⟨_, _, _, Nat.le_refl _, ⟨_, w', E, .inl (by simp [execOp, ho, h1]), Env.le_refl E, vin (x := x) (by simp [Op.operands]), h2, h3, .inl hsd.1⟩, h4⟩
  | makeFunc fn first caps =>
    cases fn with
    | func fid =>
      simp only [opA] at H
      obtain ⟨H1, H2⟩ := cond_ok H
      split at H2
      · next cs hcs =>
        obtain ⟨e1, e2⟩ := caps_ok (E := E) (ev := ev) (ρ := ρ) caps.toList cs hcs (fun x hx => vin (by simp [Op.operands]; exact .inr (by simpa using hx)))
        have hf0 : first = #[] := Array.eq_empty_of_size_eq_zero (by simpa using H1)
        subst hf0
        refine ⟨_, _, _, Nat.le_refl _, ⟨_, w, E, .inl (by simp [execOp, ho, Instr.makeFunc]; rfl), Env.le_refl E, .one _ _ (.fn fid cs _ (fun j => ρ (caps.getD j default)) (by simpa using e1.symm) ?_ ?_), g, fk⟩, H2⟩
        · intro j c hj
          obtain ⟨x, hx, _⟩ := e2 j c hj
          rw [Array.getElem?_toList] at hx
          simp [hx, Array.getD_eq_getD_getElem?]
        · intro j c hj
          obtain ⟨x, hx, hr⟩ := e2 j c hj
          rw [Array.getElem?_toList] at hx
          simpa [Array.getD_eq_getD_getElem?, hx] using hr
      · exact H2.elim
    | _ => simp only [opA] at H; exact H.elim
  | makeSlice t l c =>
    simp only [opA] at H
    obtain ⟨a, ob, h1, h2⟩ := makeSlice_ok g f (vin (x := l) (by simp [Op.operands])) (vin (x := c) (by simp [Op.operands])) H
    obtain ⟨v, w', E', h3, h4⟩ := h1
    exact ⟨_, _, _, Nat.le_succ _, ⟨v, w', E', .inl (by simp [execOp, ho, h3]), h4.1, h4.2.1, h4.2.2.1, h4.2.2.2.1, .inr h4.2.2.2.2⟩, h2⟩
  | slice t x lo hi mx =>
    simp only [opA] at H
    cases hz : (lo.isNone && isZeroC hi && isZeroC mx) with
    | true =>
      rw [hz, cond_true] at H
      simp only [Bool.and_eq_true] at hz
      obtain ⟨⟨z1, z2⟩, z3⟩ := hz
      have : lo = none := by cases lo; rfl; cases z1
      subst this
      obtain ⟨a, h1, h2⟩ := sliceZ_ok (w := w) (vin (x := x) (by simp [Op.operands])) (orel_ok hi (fun y hy => vin (by subst hy; simp [Op.operands]))) (orel_ok mx (fun y hy => vin (by subst hy; simp [Op.operands]))) H
      exact ⟨_, _, _, Nat.le_refl _, by have := val h1 (wb := false); simpa [execOp, ho, isW] using this, h2⟩
    | false =>
    rw [hz] at H
    simp only [cond_false] at H
    obtain ⟨a, h1, h2⟩ := slice_ok g (vin (x := x) (by simp [Op.operands])) (orel_ok lo (fun y hy => vin (by subst hy; simp [Op.operands]))) (orel_ok hi (fun y hy => vin (by subst hy; simp [Op.operands]))) (orel_ok mx (fun y hy => vin (by subst hy; simp [Op.operands]))) H
    exact ⟨_, _, _, Nat.le_refl _, by have := val h1 (wb := false); simpa [execOp, ho, isW] using this, h2⟩
  | fieldAddr t x i =>
    simp only [opA] at H
    obtain ⟨a, h1, h2⟩ := fieldAddr_ok (w := w) (vin (x := x) (by simp [Op.operands])) H
    exact ⟨_, _, _, Nat.le_refl _, by have := val h1 (wb := false); simpa [execOp, ho, isW] using this, h2⟩
  | field t x i =>
    simp only [opA] at H
    obtain ⟨a, h1, h2⟩ := field_ok (w := w) (vin (x := x) (by simp [Op.operands])) H
    exact ⟨_, _, _, Nat.le_refl _, by have := val h1 (wb := false); simpa [execOp, ho, isW] using this, h2⟩
  | indexAddr t x i =>
    simp only [opA] at H
    obtain ⟨a, h1, h2⟩ := indexAddr_ok (w := w) (vin (x := x) (by simp [Op.operands])) (vin (x := i) (by simp [Op.operands])) H
    exact ⟨_, _, _, Nat.le_refl _, by have := val h1 (wb := false); simpa [execOp, ho, isW] using this, h2⟩
  | index t x i =>
    simp only [opA] at H
    obtain ⟨a, h1, h2⟩ := index_ok (w := w) (vin (x := x) (by simp [Op.operands])) (vin (x := i) (by simp [Op.operands])) H
    exact ⟨_, _, _, Nat.le_refl _, by have := val h1 (wb := false); simpa [execOp, ho, isW] using this, h2⟩
  | extract x i =>
    have hx := vin (x := x) (by simp [Op.operands])
    simp only [opA] at H
    split at H
    · next vs he =>
      rw [he] at hx
      generalize hv : ρ x = va at hx
      cases hx with | tup _ us hn hr =>
      obtain ⟨H1, H2⟩ := cond_ok H
      have hi := bltN H1
      have hu : us[i]? = some us[i] := Array.getElem?_eq_getElem (by omega)
      exact ⟨_, _, _, Nat.le_refl _, ⟨us[i], w, E, .inl (by simp [execOp, ho, hv, Instr.extract, hu]), Env.le_refl E, hr i _ _ (lget_some _ vs i hi) hu, g, fk⟩, H2⟩
    · exact H.elim
  | makeInterface t x =>
    have hx := vin (x := x) (by simp [Op.operands])
    simp only [opA] at H
    split at H
    · next c hu he =>
      rw [he] at hx
      cases hx with | one _ _ hx =>
      exact ⟨_, _, _, Nat.le_refl _, ⟨_, w, E, .inl (by simp [execOp, ho, Instr.makeInterface, run_underlying hu]), Env.le_refl E, .one _ _ (.ifc t c _ hx), g, fk⟩, H⟩
    · exact H.elim
  | makeMap t r =>
    cases r with
    | some r => simp only [opA] at H; exact H.elim
    | none =>
      simp only [opA] at H
      split at H
      · split at H
        · next kd hk =>
          obtain ⟨v, w', E', h1, h2⟩ := makeMap_ok (P := P) t kd g f
          exact ⟨_, _, _, Nat.le_succ _, ⟨v, w', E', .inl (by simp [execOp, ho, h1]), h2.1, h2.2.1, h2.2.2.1, h2.2.2.2.1, .inr h2.2.2.2.2⟩, H⟩
        · exact H.elim
      · exact H.elim
  | insert t m x v =>
    have hm := vin (x := m) (by simp [Op.operands])
    have hx := vin (x := x) (by simp [Op.operands])
    have hvv := vin (x := v) (by simp [Op.operands])
    simp only [opA] at H
    split at H
    · next kt e hu =>
      split at H
      · next kd0 key kd i hk hm' hx' =>
        rw [hm'] at hm; rw [hx'] at hx
        generalize hvm : ρ m = vm at hm
        generalize hvx : ρ x = vx at hx
        cases hm with | one _ _ hm => cases hm with | mp _ b hb =>
        cases hx with | one _ _ hx => cases hx with | int _ _ =>
        split at H
        · next es kd' hob =>
          obtain ⟨H1, H2⟩ := cond_ok H
          simp only [Bool.and_eq_true] at H1
          have e1 := beqK H1.1; have e2 := beqK H1.2
          subst e1; subst e2
          split at H2
          · next hno =>
            obtain ⟨w', h1, h2, h3⟩ := insert_ok g f hu (kindOf_spec hk).1 hb hob hno hvv
            exact ⟨_, _, _, Nat.le_refl _, ⟨undef, w', E, .inr ⟨by simp [execOp, ho, hvm, hvx, h1], rfl⟩, Env.le_refl E, undef_ok E, h2, h3, .inl rfl⟩, H2⟩
          · exact H2.elim
        · exact H.elim
      · exact H.elim
    · exact H.elim
  | lookup t m x ok =>
    have hm := vin (x := m) (by simp [Op.operands])
    have hx := vin (x := x) (by simp [Op.operands])
    simp only [opA] at H
    split at H
    · next kt e hu =>
      split at H
      · next kd0 key kd i hk hm' hx' =>
        rw [hm'] at hm; rw [hx'] at hx
        generalize hvm : ρ m = vm at hm
        generalize hvx : ρ x = vx at hx
        cases hm with | one _ _ hm => cases hm with | mp _ b hb =>
        cases hx with | one _ _ hx => cases hx with | int _ _ =>
        split at H
        · next es kd' hob =>
          obtain ⟨H1, H2⟩ := cond_ok H
          simp only [Bool.and_eq_true] at H1
          have e1 := beqK H1.1; have e2 := beqK H1.2
          subst e1; subst e2
          obtain ⟨a, h1, h2⟩ := lookup_ok (k := fun v => k v h nx) g hu (kindOf_spec hk).1 hb hob H2
          refine ⟨_, _, _, Nat.le_refl _, ?_, h2⟩
          have := val h1 (wb := false)
          simpa [execOp, ho, isW, hvm, hvx] using this
        · exact H.elim
      · exact H.elim
    · exact H.elim
  | call c =>
    obtain ⟨callee, as, ts⟩ := c
    cases callee with
    | value f => simp only [opA] at H; exact H.elim
    | invoke r n => simp only [opA] at H; exact H.elim
    | builtin b =>
      have ain : ∀ {x : Operand}, x ∈ as → VRel E (ev x) (ρ x) := fun hx => vin (by simp [Op.operands, Call.operands, hx])
      have one : ∀ {n : Nat}, as.size = n → ∀ j, j < n → ∃ x, as[j]? = some x ∧ as.getD j default = x ∧ VRel E (ev x) (ρ x) := by
        intro n hn j hj
        have h1 : as[j]? = some as[j] := Array.getElem?_eq_getElem (by omega)
        exact ⟨as[j], h1, by simp [Array.getD_eq_getD_getElem?, h1], ain (Array.getElem_mem _)⟩
      have two : as.size = 2 → as = #[as.getD 0 default, as.getD 1 default] := by
        intro h2
        apply Array.ext
        · simpa using h2
        · intro i h1 h3
          match i, h1 with
          | 0, h1 => simp [Array.getD, h2]
          | 1, h1 => simp [Array.getD, h2]
          | i + 2, h1 => omega
      have twot : ts.size = 2 → ts = #[argTy ts 0, argTy ts 1] := by
        intro h2
        apply Array.ext
        · simpa using h2
        · intro i h1 h3
          match i, h1 with
          | 0, h1 => simp [argTy, Array.getD, h2]
          | 1, h1 => simp [argTy, Array.getD, h2]
          | i + 2, h1 => omega
      cases b with
      | len =>
        simp only [opA] at H
        obtain ⟨H1, H2⟩ := cond_ok H
        simp only [Bool.and_eq_true, beq_iff_eq] at H1
        obtain ⟨x, _, hx2, hx3⟩ := one H1.2 0 (by omega)
        rw [hx2] at H2
        obtain ⟨n, h1, h2⟩ := len_ok (w := w) (ty := o.type) hx3 H2
        refine ⟨_, _, _, Nat.le_refl _, ⟨_, w, E, .inl ?_, Env.le_refl E, .one _ _ (.int _ _), g, fk⟩, h2⟩
        have e1 : as = #[x] := by
          apply Array.ext
          · simpa using H1.2
          · intro i h1 h3
            have : i = 0 := by simp at h3; omega
            subst this
            rw [← hx2]; simp [Array.getD, H1.2]
        have e2 : ts = #[argTy ts 0] := by
          apply Array.ext
          · simpa using H1.1
          · intro i h1 h3
            have : i = 0 := by simp at h3; omega
            subst this
            simp [argTy, Array.getD, H1.1]
        rw [← e2] at h1
        simp [execOp, ho, resolve, invoke, builtin, e1, h1]
      | min =>
        simp only [opA] at H
        split at H
        · next kd x kd' y he1 he2 =>
          obtain ⟨H1, H2⟩ := cond_ok H
          simp only [Bool.and_eq_true, beq_iff_eq] at H1
          have e := H1.1
          subst e
          obtain ⟨X, _, hx2, hx3⟩ := one H1.2 0 (by omega)
          obtain ⟨Y, _, hy2, hy3⟩ := one H1.2 1 (by omega)
          have e1 := two H1.2
          rw [hx2, hy2] at e1
          rw [hx2] at he1; rw [hy2] at he2
          rw [he1] at hx3; rw [he2] at hy3
          generalize hvx : ρ X = vx at hx3
          generalize hvy : ρ Y = vy at hy3
          cases hx3 with | one _ _ hx3 => cases hx3 with | int _ _ =>
          cases hy3 with | one _ _ hy3 => cases hy3 with | int _ _ =>
          exact ⟨_, _, _, Nat.le_refl _, ⟨_, w, E, .inl (by simp [execOp, ho, resolve, invoke, builtin, e1, Builtin.min_, Builtin.min2, hvx, hvy]), Env.le_refl E, .one _ _ (.int _ _), g, fk⟩, H2⟩
        · exact H.elim
      | append =>
        simp only [opA] at H
        obtain ⟨H1, H2⟩ := cond_ok H
        simp only [Bool.and_eq_true, beq_iff_eq] at H1
        obtain ⟨X, _, hx2, hx3⟩ := one H1.2 0 (by omega)
        obtain ⟨Y, _, hy2, hy3⟩ := one H1.2 1 (by omega)
        have e1 := two H1.2
        have e2 := twot H1.1
        rw [hx2, hy2] at e1 H2
        obtain ⟨a, h', h1, h2⟩ := append_ok (ty := o.type) g f hx3 hy3 H2
        obtain ⟨v, w', E', h3, h4⟩ := h1
        rw [← e2] at h3
        exact ⟨_, _, _, Nat.le_succ _, ⟨v, w', E', .inl (by simp [execOp, ho, resolve, invoke, builtin, e1, h3]), h4.1, h4.2.1, h4.2.2.1, h4.2.2.2, .inl rfl⟩, h2⟩
      | copy =>
        simp only [opA] at H
        obtain ⟨H1, H2⟩ := cond_ok H
        simp only [Bool.and_eq_true, beq_iff_eq] at H1
        obtain ⟨X, _, hx2, hx3⟩ := one H1.2 0 (by omega)
        obtain ⟨Y, _, hy2, hy3⟩ := one H1.2 1 (by omega)
        have e1 := two H1.2
        have e2 := twot H1.1
        rw [hx2, hy2] at e1 H2
        obtain ⟨a, h', h1, h2⟩ := copy_ok (t' := argTy ts 1) (ty := o.type) g f hx3 hy3 H2
        obtain ⟨v, w', E', h3, h4⟩ := h1
        rw [← e2] at h3
        exact ⟨_, _, _, Nat.le_refl _, ⟨v, w', E', .inl (by simp [execOp, ho, resolve, invoke, builtin, e1, h3]), h4.1, h4.2.1, h4.2.2.1, h4.2.2.2, .inl rfl⟩, h2⟩
      | _ => simp only [opA] at H; exact H.elim
  | _ => simp only [opA] at H; exact H.elim
end
end Go.Ab

/- The abstract machine: an operation's outcome does not hang on what is done with it. -/
namespace Go.Ab
section
variable {P : Program}

def T.bind : T → (AV → Heap → Nat → T) → T
  | .fail s, _ => .fail s
  | .done v h n, k => k v h n
  | .leaf t s, _ => .leaf t s

/-- What lets failures be. -/
def Strict {α β : Type} (f : String → α) (f' : String → β) (g : α → β) : Prop := ∀ s, g (f s) = f' s

theorem hcond {α β : Type} (g : α → β) (b : Bool) (x y : α) : g (cond b x y) = cond b (g x) (g y) := by cases b <;> rfl


section
variable {α β : Type} {f : String → α} {f' : String → β} {g : α → β} (hg : Strict f f' g)
include hg

theorem loadA_hom (t : TypeId) (o : AObj) (off : Nat) (k : AV → α) : g (loadA P f t o off k) = loadA P f' t o off (fun v => g (k v)) := by
  unfold loadA
  repeat' (first | rfl | exact hg _ | (refine (hcond g _ _ _).trans ?_; congr 1) | split)

theorem storeA_hom (t : TypeId) (o : AObj) (off : Nat) (v : AV) (k : AObj → α) : g (storeA P f t o off v k) = storeA P f' t o off v (fun v => g (k v)) := by
  unfold storeA
  repeat' (first | rfl | exact hg _ | (refine (hcond g _ _ _).trans ?_; congr 1) | split)

theorem boxA_hom (t : TypeId) (v : AV) (k : AObj → α) : g (boxA P f t v k) = boxA P f' t v (fun v => g (k v)) := by
  unfold boxA
  repeat' (first | rfl | exact hg _ | (refine (hcond g _ _ _).trans ?_; congr 1) | split)

theorem binI_hom (op : BinOp) (kd : IntKind) (x y : Int) (k : AC → α) : g (binI f op kd x y k) = binI f' op kd x y (fun v => g (k v)) := by
  unfold binI
  repeat' (first | rfl | exact hg _ | (refine (hcond g _ _ _).trans ?_; congr 1) | split)

theorem shiftI_hom (op : BinOp) (kd : IntKind) (x y : Int) (k : AC → α) : g (shiftI f op kd x y k) = shiftI f' op kd x y (fun v => g (k v)) := by
  unfold shiftI
  repeat' (first | rfl | exact hg _ | (refine (hcond g _ _ _).trans ?_; congr 1) | split)

theorem eqA_hom (t : TypeId) (cst : Bool) (x y : AV) (k : Bool → α) : g (eqA P f t cst x y k) = eqA P f' t cst x y (fun v => g (k v)) := by
  unfold eqA
  repeat' (first | rfl | exact hg _ | (refine (hcond g _ _ _).trans ?_; congr 1) | split)

theorem binA_hom (t : TypeId) (cst : Bool) (op : BinOp) (x y : AV) (k : AV → α) : g (binA P f t cst op x y k) = binA P f' t cst op x y (fun v => g (k v)) := by
  unfold binA
  repeat' (first | rfl | exact hg _ | exact shiftI_hom hg _ _ _ _ _ | exact eqA_hom hg _ _ _ _ _ | (refine (hcond g _ _ _).trans ?_; congr 1; exact binI_hom hg _ _ _ _ _) | (refine (hcond g _ _ _).trans ?_; congr 1) | split)

theorem unA_hom (op : UnOp) (x : AV) (k : AV → α) : g (unA f op x k) = unA f' op x (fun v => g (k v)) := by
  unfold unA
  repeat' (first | rfl | exact hg _ | (refine (hcond g _ _ _).trans ?_; congr 1) | split)

theorem readI_hom (kd : IntKind) (h : Heap) (c : AC) (k : Nat → List Int → α) : g (readI f kd h c k) = readI f' kd h c (fun n v => g (k n v)) := by
  unfold readI
  repeat' (first | rfl | exact hg _ | (refine (hcond g _ _ _).trans ?_; congr 1) | split)

theorem readC_hom (sz : Nat) (h : Heap) (c : AC) (k : Nat → List AC → α) : g (readC f sz h c k) = readC f' sz h c (fun n v => g (k n v)) := by
  unfold readC
  repeat' (first | rfl | exact hg _ | (refine (hcond g _ _ _).trans ?_; congr 1) | split)

theorem natOf_hom (x : AV) (k : Nat → α) : g (natOf f x k) = natOf f' x (fun v => g (k v)) := by
  unfold natOf
  repeat' (first | rfl | exact hg _ | (refine (hcond g _ _ _).trans ?_; congr 1) | split)

theorem indexAddrA_hom (t : TypeId) (x i : AV) (k : AV → α) : g (indexAddrA P f t x i k) = indexAddrA P f' t x i (fun v => g (k v)) := by
  unfold indexAddrA
  rw [natOf_hom hg]
  congr 1; funext j
  repeat' (first | rfl | exact hg _ | (refine (hcond g _ _ _).trans ?_; congr 1) | split)

theorem indexA_hom (t : TypeId) (x i : AV) (k : AV → α) : g (indexA P f t x i k) = indexA P f' t x i (fun v => g (k v)) := by
  unfold indexA
  rw [natOf_hom hg]
  congr 1; funext j
  repeat' (first | rfl | exact hg _ | (refine (hcond g _ _ _).trans ?_; congr 1) | split)

theorem fieldAddrA_hom (t : TypeId) (x : AV) (i : Nat) (k : AV → α) : g (fieldAddrA P f t x i k) = fieldAddrA P f' t x i (fun v => g (k v)) := by
  unfold fieldAddrA
  repeat' (first | rfl | exact hg _ | (refine (hcond g _ _ _).trans ?_; congr 1) | split)

theorem fieldA_hom (t : TypeId) (x : AV) (i : Nat) (k : AV → α) : g (fieldA P f t x i k) = fieldA P f' t x i (fun v => g (k v)) := by
  unfold fieldA
  repeat' (first | rfl | exact hg _ | exact loadA_hom hg _ _ _ _ | (refine (hcond g _ _ _).trans ?_; congr 1) | split)

theorem fillA_hom (place : Nat → Option (Nat × Nat)) : ∀ (as : List (Nat × AV)) (cs : List AC) (k : List AC → α), g (fillA f place cs as k) = fillA f' place cs as (fun v => g (k v))
  | [], cs, k => rfl | (i, v) :: r, cs, k => by
    simp only [fillA]
    split
    · refine (hcond g _ _ _).trans ?_
      congr 1
      · exact fillA_hom place r _ k
      · exact hg _
    · exact hg _

theorem fillI_hom (kd : IntKind) : ∀ (as : List (Nat × AV)) (cs : List Int) (k : List Int → α), g (fillI f kd cs as k) = fillI f' kd cs as (fun v => g (k v))
  | [], cs, k => rfl | (i, .one (.int kd' n)) :: r, cs, k => by
    simp only [fillI]
    refine (hcond g _ _ _).trans ?_
    congr 1
    · exact fillI_hom kd r _ k
    · exact hg _ | (i, .agg _) :: r, cs, k | (i, .iagg _ _ _) :: r, cs, k | (i, .tup _) :: r, cs, k | (i, .any) :: r, cs, k => by simp only [fillI]; exact hg _ | (i, .one c) :: r, cs, k => by
    cases c with
             | int kd' n =>
      simp only [fillI]
      refine (hcond g _ _ _).trans ?_
      congr 1
      · exact fillI_hom kd r _ k
      · exact hg _
             | _ => simp only [fillI]; exact hg _

theorem buildA_hom (t : TypeId) (ps : List (Nat × AV)) (k : AV → α) : g (buildA P f t ps k) = buildA P f' t ps (fun v => g (k v)) := by
  unfold buildA
  repeat' (first | rfl | exact hg _ | exact fillA_hom hg _ _ _ _ | exact fillI_hom hg _ _ _ _ | (refine (hcond g _ _ _).trans ?_; congr 1) | split)

theorem buildSliceA_hom (t : TypeId) (n : Nat) (ps : List (Nat × AV)) (key : Nat) (k : AV → AObj → α) : g (buildSliceA P f t n ps key k) = buildSliceA P f' t n ps key (fun v o => g (k v o)) := by
  unfold buildSliceA
  repeat' (first | rfl | exact hg _ | exact fillA_hom hg _ _ _ _ | exact fillI_hom hg _ _ _ _ | (refine (hcond g _ _ _).trans ?_; congr 1) | split)

theorem makeSliceA_hom (t : TypeId) (x y : AV) (key : Nat) (k : AV → AObj → α) : g (makeSliceA P f t x y key k) = makeSliceA P f' t x y key (fun v o => g (k v o)) := by
  unfold makeSliceA
  rw [natOf_hom hg]
  congr 1; funext l
  rw [natOf_hom hg]
  congr 1; funext c
  repeat' (first | rfl | exact hg _ | (refine (hcond g _ _ _).trans ?_; congr 1) | split)

theorem optNat_hom (x : Option AV) (d : Nat) (k : Nat → α) : g (optNat f x d k) = optNat f' x d (fun v => g (k v)) := by
  unfold optNat
  split
  · exact natOf_hom hg _ _
  · rfl

theorem sliceA_hom (t : TypeId) (h : Heap) (x : AV) (lo hi mx : Option AV) (k : AV → α) : g (sliceA P f t h x lo hi mx k) = sliceA P f' t h x lo hi mx (fun v => g (k v)) := by
  unfold sliceA
  rw [optNat_hom hg]
  congr 1; funext l
  repeat' (first | rfl | exact hg _ | (refine (hcond g _ _ _).trans ?_; congr 1) | (rw [optNat_hom hg]; congr 1; funext _) | (rw [natOf_hom hg]; congr 1; funext _) | split)

theorem sliceZ_hom (t : TypeId) (x : AV) (hi mx : Option AV) (k : AV → α) : g (sliceZ P f t x hi mx k) = sliceZ P f' t x hi mx (fun v => g (k v)) := by
  unfold sliceZ
  repeat' (first | rfl | exact hg _ | (refine (hcond g _ _ _).trans ?_; congr 1) | split)

theorem convertA_hom (s d : TypeId) (x : AV) (h : Heap) (k : AV → α) : g (convertA P f s d x h k) = convertA P f' s d x h (fun v => g (k v)) := by
  unfold convertA
  repeat' (first | rfl | exact hg _ | exact readI_hom hg _ _ _ _ | (refine (hcond g _ _ _).trans ?_; congr 1) | split)

theorem convSl_hom (x : AV) (h : Heap) (k : AV → α) : g (convSl f x h k) = convSl f' x h (fun v => g (k v)) := by
  unfold convSl
  repeat' (first | rfl | exact hg _ | (refine (hcond g _ _ _).trans ?_; congr 1) | split)

theorem lenA_hom (t : TypeId) (x : AV) (k : Nat → α) : g (lenA P f t x k) = lenA P f' t x (fun v => g (k v)) := by
  unfold lenA
  repeat' (first | rfl | exact hg _ | (refine (hcond g _ _ _).trans ?_; congr 1) | split)

theorem appendI_hom (e : TypeId) (kd : IntKind) (h : Heap) (x : AC) (m : Nat) (ys : List Int) (key : Nat) (k : AV → Heap → α) : g (appendI P f e kd h x m ys key k) = appendI P f' e kd h x m ys key (fun v o => g (k v o)) := by
  unfold appendI
  repeat' (first | rfl | exact hg _ | (refine (hcond g _ _ _).trans ?_; congr 1) | split)

theorem appendC_hom (e : TypeId) (n : Nat) (h : Heap) (x : AC) (m : Nat) (ys : List AC) (key : Nat) (k : AV → Heap → α) : g (appendC P f e n h x m ys key k) = appendC P f' e n h x m ys key (fun v o => g (k v o)) := by
  unfold appendC
  repeat' (first | rfl | exact hg _ | (refine (hcond g _ _ _).trans ?_; congr 1) | split)

theorem appendA_hom (t t' : TypeId) (h : Heap) (x y : AV) (key : Nat) (k : AV → Heap → α) : g (appendA P f t t' h x y key k) = appendA P f' t t' h x y key (fun v o => g (k v o)) := by
  unfold appendA
  repeat' (first | rfl | exact hg _ | exact appendI_hom hg _ _ _ _ _ _ _ _ | (rw [readI_hom hg]; congr 1; funext _ _; exact appendI_hom hg _ _ _ _ _ _ _ _) | (rw [readC_hom hg]; congr 1; funext _ _; exact appendC_hom hg _ _ _ _ _ _ _ _) | (refine (hcond g _ _ _).trans ?_; congr 1) | split)

theorem copyA_hom (t : TypeId) (h : Heap) (x y : AV) (k : AV → Heap → α) : g (copyA P f t h x y k) = copyA P f' t h x y (fun v o => g (k v o)) := by
  unfold copyA
  repeat' (first | rfl | exact hg _ | (rw [readI_hom hg]; congr 1; funext _ _) | (refine (hcond g _ _ _).trans ?_; congr 1) | split)
end

theorem opA_hom {g : T → T} (hg : Strict T.fail T.fail g) (o : Op) (args : Array TypeId → Nat → TypeId) (ev : Operand → AV) (h : Heap) (nx : Nat) (k : AV → Heap → Nat → T) :
    g (opA P o args ev h nx k) = opA P o args ev h nx (fun v h n => g (k v h n)) := by
  unfold opA
  repeat' (first | rfl | exact hg _ | exact boxA_hom hg _ _ _ | exact buildA_hom hg _ _ _ | exact buildSliceA_hom hg _ _ _ _ _ | exact loadA_hom hg _ _ _ _ | exact storeA_hom hg _ _ _ _ _ | exact binA_hom hg _ _ _ _ _ _ | exact unA_hom hg _ _ _ | exact convertA_hom hg _ _ _ _ _ | exact convSl_hom hg _ _ _ | exact makeSliceA_hom hg _ _ _ _ _ | exact sliceA_hom hg _ _ _ _ _ _ _ | exact sliceZ_hom hg _ _ _ _ _ | exact fieldAddrA_hom hg _ _ _ _ | exact fieldA_hom hg _ _ _ _ | exact indexAddrA_hom hg _ _ _ _ | exact indexA_hom hg _ _ _ _ | exact lenA_hom hg _ _ _ | exact appendA_hom hg _ _ _ _ _ _ _ | exact copyA_hom hg _ _ _ _ _ | (refine (hcond g _ _ _).trans ?_; congr 1) | split)
end
end Go.Ab

/- The abstract machine: an operation that is shown a part of the memory. -/
namespace Go.Ab
section
variable {P : Program}

/-- The keys below n alone. -/
def Env.below (E : Env) (n : Nat) : Env := { E with blk := fun k => if k < n then E.blk k else none, lo := n }

theorem Env.below_sub (E : Env) (n : Nat) : (E.below n).sub E :=
  ⟨(fun k b h => by
    simp only [Env.below] at h
    split at h
    · exact ⟨h, rfl, rfl⟩
    · cases h), fun _ _ h => h⟩

theorem Env.below_below (E : Env) {n m : Nat} (h : n ≤ m) : (E.below n).sub (E.below m) :=
  ⟨(fun k b hb => by
    simp only [Env.below] at hb
    split at hb
    · next hk => exact ⟨by simp only [Env.below]; rw [if_pos (by omega)]; exact hb, rfl, rfl⟩
    · cases hb), fun _ _ h => h⟩

theorem Env.sub_trans {A B C : Env} (h : A.sub B) (h' : B.sub C) : A.sub C :=
  ⟨fun k b hb => by
    obtain ⟨h1, h2, h3⟩ := h.blk k b hb
    obtain ⟨g1, g2, g3⟩ := h'.blk k b h1
    exact ⟨g1, g2.trans h2, g3.trans h3⟩, fun b m hm => h'.mem b m (h.mem b m hm)⟩

theorem hget_restr (h : Heap) : ∀ (ks : List Nat) (k : Nat), hget (restr h ks) k = if k ∈ ks then hget h k else .none
  | [], k => by simp [restr, hget]
  | j :: ks, k => by
    have ih := hget_restr h ks k
    simp only [restr, List.map_cons, hget] at ih ⊢
    by_cases e : j = k
    · subst e; simp
    · have : Nat.beq j k = false := by rw [Bool.eq_false_iff]; intro h; exact e (Nat.eq_of_beq_eq_true h)
      simp only [this, cond_false, ih, List.mem_cons]
      by_cases h1 : k ∈ ks
      · simp [h1]
      · simp [h1, Ne.symm e]

theorem hget_merge (h' : Heap) : ∀ (wr : List Nat) (h : Heap) (k : Nat), hget (merge h wr h') k = if k ∈ wr then hget h' k else hget h k
  | [], h, k => by simp [merge]
  | j :: wr, h, k => by
    have ih := hget_merge h' wr (hset h j (hget h' j)) k
    simp only [merge, List.foldl_cons] at ih ⊢
    rw [ih, hget_hset]
    by_cases h1 : k ∈ wr
    · simp [h1]
    · by_cases e : j = k
      · subst e; simp
      · simp [h1, e, Ne.symm e]

theorem hget_nokey : ∀ (h : Heap) (k : Nat), k ∉ h.map Prod.fst → hget h k = .none
  | [], k, _ => rfl
  | (j, o) :: h, k, hk => by
    simp only [List.map_cons, List.mem_cons, not_or] at hk
    have : Nat.beq j k = false := by rw [Bool.eq_false_iff]; intro h; exact hk.1 (Nat.eq_of_beq_eq_true h).symm
    simp only [hget, this, cond_false]
    exact hget_nokey h k hk.2

theorem has_iff {l : List Nat} {k : Nat} : has l k = true ↔ k ∈ l := by
  simp only [has, List.any_eq_true]
  constructor
  · rintro ⟨x, hx, h⟩
    exact (Nat.eq_of_beq_eq_true h) ▸ hx
  · intro h
    exact ⟨k, h, Nat.beq_refl k⟩

/-- What is shown to an operation, and what it may touch. -/
def Fr.vis (E : Env) (w : World) (h : Heap) (fp : List Nat) : Fr := { w0 := w, wr := fun b => ∃ k, (hget (restr h fp) k).live ∧ E.blk k = some b, mem0 := E.mem }

theorem Env.below_blk {E : Env} {n k b : Nat} (h : (E.below n).blk k = some b) : k < n ∧ E.blk k = some b := by
  simp only [Env.below] at h
  split at h
  · next hk => exact ⟨hk, h⟩
  · cases h

theorem vis_good {E : Env} {h : Heap} {N nx : Nat} {w : World} {fp : List Nat} (g : Good E h N w) (hvis : ∀ k ∈ fp, Holds (E.below nx) w k (hget h k)) :
    Good (E.below nx) (restr h fp) nx w ∧ Framed (Fr.vis E w h fp) (E.below nx) (restr h fp) w := by
  have live : ∀ k, (hget (restr h fp) k).live → k ∈ fp ∧ (hget h k).live := fun k hk => by
    rw [hget_restr] at hk
    split at hk
    · next hm => exact ⟨hm, hk⟩
    · exact hk.elim
  refine ⟨⟨?_, ?_, ?_, ?_, ?_⟩, ⟨Nat.le_refl _, fun _ _ _ => rfl, ?_, fun b m hm => .inl hm, rfl, rfl, rfl⟩⟩
  · intro k
    rw [hget_restr]
    split
    · next hm => exact hvis k hm
    · trivial
  · intro k k' b hl hl' hb hb'
    exact g.inj k k' b (live k hl).2 (live k' hl').2 (Env.below_blk hb).2 (Env.below_blk hb').2
  · intro k b hl hb
    exact g.imm k b (live k hl).2 (Env.below_blk hb).2
  · exact g.mem
  · intro k hk
    exact ⟨by simp [Env.below, show ¬ k < nx by omega], hk⟩
  · intro k b hl hb
    exact .inr ⟨k, hl, (Env.below_blk hb).2⟩

/-- The environment behind an operation. -/
def Env.join (E E1 : Env) (nx nx' : Nat) : Env :=
  { blk := fun k => if nx ≤ k ∧ k < nx' then E1.blk k else E.blk k
    base := fun k => if nx ≤ k ∧ k < nx' then E1.base k else E.base k
    size := fun k => if nx ≤ k ∧ k < nx' then E1.size k else E.size k
    mem := E1.mem
    lo := E.lo }

theorem join_facts {E E1 : Env} {nx nx' : Nat} {h' : Heap} {w' : World} (hfresh : ∀ k, nx ≤ k → k < nx' → E.blk k = none) (hle : (E.below nx).le E1) (g1 : Good E1 h' nx' w') :
    E.sub (E.join E1 nx nx') ∧ E1.sub ((E.join E1 nx nx').below nx') ∧ (∀ n, (E.below n).sub ((E.join E1 nx nx').below n)) := by
  have h1 : E.sub (E.join E1 nx nx') := by
    refine ⟨fun k b hb => ?_, fun b m hm => hle.mem b m hm⟩
    have : ¬ (nx ≤ k ∧ k < nx') := fun ⟨p, q⟩ => by rw [hfresh k p q] at hb; cases hb
    simp [Env.join, this, hb]
  refine ⟨h1, ⟨fun k b hb => ?_, fun b m hm => hm⟩, fun n => ⟨fun k b hb => ?_, fun b m hm => hle.mem b m hm⟩⟩
  · have hk : k < nx' := by
      rcases Nat.lt_or_ge k nx' with h | h
      · exact h
      · rw [(g1.fresh k h).1] at hb; cases hb
    simp only [Env.below, Env.join, hk, if_true, and_true]
    by_cases hn : nx ≤ k
    · simp [hn, hb]
    · simp only [hn, if_false]
      have := (hle.new k b hb).resolve_right (by simp [Env.below]; omega)
      obtain ⟨e1, e2, e3⟩ := hle.blk k b this
      exact ⟨(Env.below_blk this).2, e2.symm, e3.symm⟩
  · obtain ⟨hk, hb'⟩ := Env.below_blk hb
    obtain ⟨e1, e2, e3⟩ := h1.blk k b hb'
    simp only [Env.below, hk, if_true]
    exact ⟨e1, e2, e3⟩

theorem frame_step {E E1 : Env} {F : Fr} {h h' : Heap} {N nx nx' : Nat} {w w' : World} {fp wr : List Nat} (g : Good E h N w) (f : Framed F E h w) (hN : nx' ≤ N) (hfresh : ∀ k, nx ≤ k → k < nx' → E.blk k = none)
    (hle : (E.below nx).le E1) (g1 : Good E1 h' nx' w') (f1 : Framed (Fr.vis E w h fp) E1 h' w')
    (hwr : (∀ k ∈ fp, k ∈ wr) ∨ (Kept (E.below nx) E1 nx w w' ∧ ∀ k ∈ wr, nx ≤ k)) :
    Good (E.join E1 nx nx') (merge h wr h') N w' ∧ Framed F (E.join E1 nx nx') (merge h wr h') w' ∧
      (∀ k, k ∉ wr → ∀ b, (hget h k).live → E.blk k = some b → w'.heap[b]? = w.heap[b]?) := by
  obtain ⟨j1, j2, j3⟩ := join_facts hfresh hle g1
  have j2' : E1.sub (E.join E1 nx nx') := Env.sub_trans j2 (Env.below_sub _ _)
  -- what is not written is as it was
  have hun : ∀ k, k ∉ wr → ∀ b, (hget h k).live → E.blk k = some b → w'.heap[b]? = w.heap[b]? := by
    intro k hk b hl hb
    have hlt : b < w.heap.size := g.lt hl hb
    rcases hwr with hwr | ⟨hkp, _⟩
    · refine f1.old b hlt ?_
      rintro ⟨k2, hl2, hb2⟩
      rw [hget_restr] at hl2
      split at hl2
      · next hm =>
        have := g.inj k k2 b hl hl2 hb hb2
        subst this
        exact hk (hwr k hm)
      · exact hl2.elim
    · exact hkp.old b hlt
  have live : ∀ k, (hget (merge h wr h') k).live → (k ∈ wr ∧ (hget h' k).live) ∨ (k ∉ wr ∧ (hget h k).live) := fun k hk => by
    rw [hget_merge] at hk
    split at hk
    · next hm => exact .inl ⟨hm, hk⟩
    · next hm => exact .inr ⟨hm, hk⟩
  -- blocks of what is written
  have bw : ∀ k b, (hget h' k).live → (E.join E1 nx nx').blk k = some b → E1.blk k = some b := fun k b hl hb => by
    obtain ⟨b', o, hb', _⟩ := g1.block hl
    have := (j2'.blk k b' hb').1
    rw [hb] at this; cases this
    exact hb'
  have bo : ∀ k b, (hget h k).live → (E.join E1 nx nx').blk k = some b → E.blk k = some b := fun k b hl hb => by
    obtain ⟨b', o, hb', _⟩ := g.block hl
    have := (j1.blk k b' hb').1
    rw [hb] at this; cases this
    exact hb'
  have apart : ∀ k k' b, k ∈ wr → (hget h' k).live → k' ∉ wr → (hget h k').live → E1.blk k = some b → E.blk k' = some b → False := by
    intro k k' b hk hl hk' hl' hb hb'
    have hlt : b < w.heap.size := g.lt hl' hb'
    rcases hwr with hwr | ⟨hkp, hge⟩
    · rcases f1.own k b hl hb with h1 | ⟨k2, hl2, hb2⟩
      · exact absurd hlt (Nat.not_lt.2 h1)
      · rw [hget_restr] at hl2
        split at hl2
        · next hm =>
          have := g.inj k' k2 b hl' hl2 hb' hb2
          subst this
          exact hk' (hwr k' hm)
        · exact hl2.elim
    · exact absurd hlt (Nat.not_lt.2 (hkp.key k b (hge k hk) hb))
  refine ⟨⟨?_, ?_, ?_, ?_, ?_⟩, ⟨?_, ?_, ?_, ?_, f1.os.trans f.os, f1.tape.trans f.tape, f1.output.trans f.output⟩, hun⟩
  · intro k
    rw [hget_merge]
    split
    · exact (g1.holds k).sub j2' fun _ _ => rfl
    · next hm =>
      cases hq : hget h k with
      | none => trivial
      | _ =>
        rw [← hq]
        exact (g.holds k).sub j1 fun b hb => hun k hm b (by rw [hq]; trivial) hb
  · intro k k' b hl hl' hb hb'
    rcases live k hl with ⟨m1, l1⟩ | ⟨m1, l1⟩ <;> rcases live k' hl' with ⟨m2, l2⟩ | ⟨m2, l2⟩
    · exact g1.inj k k' b l1 l2 (bw k b l1 hb) (bw k' b l2 hb')
    · exact (apart k k' b m1 l1 m2 l2 (bw k b l1 hb) (bo k' b l2 hb')).elim
    · exact (apart k' k b m2 l2 m1 l1 (bw k' b l2 hb') (bo k b l1 hb)).elim
    · exact g.inj k k' b l1 l2 (bo k b l1 hb) (bo k' b l2 hb')
  · intro k b hl hb
    rcases live k hl with ⟨m1, l1⟩ | ⟨m1, l1⟩
    · exact g1.imm k b l1 (bw k b l1 hb)
    · have hb0 := bo k b l1 hb
      have hlt : b < w.heap.size := g.lt l1 hb0
      have hm0 := g.imm k b l1 hb0
      cases hm : E1.mem b with
      | none => exact hm
      | some m =>
        rcases hwr with hwr | ⟨hkp, _⟩
        · rcases f1.memNew b m hm with h1 | h1 | ⟨k2, hl2, hb2⟩
          · have h1 : E.mem b = some m := h1
            rw [hm0] at h1; cases h1
          · exact absurd hlt (Nat.not_lt.2 h1)
          · rw [hget_restr] at hl2
            split at hl2
            · next hm2 =>
              have := g.inj k k2 b l1 hl2 hb0 hb2
              subst this
              exact (m1 (hwr k hm2)).elim
            · exact hl2.elim
        · rcases hkp.mem b m hm with h1 | h1
          · have h1 : E.mem b = some m := h1
            rw [hm0] at h1; cases h1
          · exact absurd hlt (Nat.not_lt.2 h1)
  · exact g1.mem
  · intro k hk
    have : ¬ (nx ≤ k ∧ k < nx') := by omega
    simp only [Env.join, this, if_false]
    exact g.fresh k hk
  · exact Nat.le_trans f.size f1.size
  · intro b hb hnw
    have hnv : ¬ (Fr.vis E w h fp).wr b := by
      rintro ⟨k2, hl2, hb2⟩
      rw [hget_restr] at hl2
      split at hl2
      · rcases f.own k2 b hl2 hb2 with h1 | h1
        · omega
        · exact hnw h1
      · exact hl2.elim
    exact (f1.old b (Nat.lt_of_lt_of_le hb f.size) hnv).trans (f.old b hb hnw)
  · intro k b hl hb
    rcases live k hl with ⟨m1, l1⟩ | ⟨m1, l1⟩
    · rcases f1.own k b l1 (bw k b l1 hb) with h1 | ⟨k2, hl2, hb2⟩
      · exact .inl (Nat.le_trans f.size h1)
      · rw [hget_restr] at hl2
        split at hl2
        · exact f.own k2 b hl2 hb2
        · exact hl2.elim
    · exact f.own k b l1 (bo k b l1 hb)
  · intro b m hm
    rcases f1.memNew b m hm with h1 | h1 | ⟨k2, hl2, hb2⟩
    · exact f.memNew b m h1
    · exact .inr (.inl (Nat.le_trans f.size h1))
    · rw [hget_restr] at hl2
      split at hl2
      · exact .inr (f.own k2 b hl2 hb2)
      · exact hl2.elim
end
end Go.Ab

/- The abstract machine: guards, calls and operations, one behind the other. -/
namespace Go.Ab
section
variable {P : Program}

/-- The frame's values are as they are said to be. -/
structure TmpsRel (E : Env) (ts : List AV) (vs : Array Value) : Prop where
  size : vs.size = ts.length
  get : ∀ d, VRel E (lget (.tup []) ts d) (vs.getD d undef)

theorem TmpsRel.sub {E E' : Env} {ts : List AV} {vs : Array Value} (h : TmpsRel E ts vs) (hE : E.sub E') : TmpsRel E' ts vs := ⟨h.size, fun d => (h.get d).sub hE⟩

theorem lget_lset {α : Type} (d : α) : ∀ (l : List α) (i j : Nat) (y : α), lget d (lset l i y) j = if i = j ∧ j < l.length then y else lget d l j
  | [], i, j, y => by simp [lset, lget]
  | x :: l, 0, 0, y => by simp [lset, lget]
  | x :: l, 0, j + 1, y => by simp [lset, lget]
  | x :: l, i + 1, 0, y => by simp [lset, lget]
  | x :: l, i + 1, j + 1, y => by simp [lset, lget, lget_lset d l i j y]

theorem getD_put (a : Act) (dst : Option Tmp) (u : Value) (d : Nat) : (a.put dst u).tmps.getD d undef = if dst = some d ∧ d < a.tmps.size then u else a.tmps.getD d undef := by
  cases dst with
  | none => simp [Act.put]
  | some e =>
    simp only [Act.put, Option.some.injEq, Array.getD_eq_getD_getElem?]
    by_cases h : e = d
    · subst h
      by_cases h2 : e < a.tmps.size
      · simp [h2]
      · simp [h2]
    · rw [Array.getElem?_setIfInBounds_ne h]; simp [h]

theorem size_put (a : Act) (dst : Option Tmp) (u : Value) : (a.put dst u).tmps.size = a.tmps.size := by cases dst <;> simp [Act.put]
theorem defers_put (a : Act) (dst : Option Tmp) (u : Value) : (a.put dst u).defers = a.defers := by cases dst <;> rfl

theorem length_putA (ts : List AV) (dst : Option Tmp) (v : AV) : (putA ts dst v).length = ts.length := by cases dst <;> simp [putA]

theorem lget_putA (ts : List AV) (dst : Option Tmp) (v : AV) (d : Nat) : lget (.tup []) (putA ts dst v) d = if dst = some d ∧ d < ts.length then v else lget (.tup []) ts d := by
  cases dst with
  | none => simp [putA]
  | some e => simp only [putA, lget_lset, Option.some.injEq]

theorem TmpsRel.put {E : Env} {ts : List AV} {a : Act} (h : TmpsRel E ts a.tmps) (dst : Option Tmp) {v : AV} {u : Value} (hv : VRel E v u) : TmpsRel E (putA ts dst v) (a.put dst u).tmps :=
  ⟨by rw [size_put, length_putA]; exact h.size, fun d => by
    rw [lget_putA, getD_put, h.size]
    split
    · exact hv
    · exact h.get d⟩

theorem evA_ok {E : Env} {ts : List AV} {a : Act} (x : Operand) (h : ∀ d, x = .tmp d → VRel E (lget (.tup []) ts d) (a.tmps.getD d undef)) : VRel E (evA ts x) (a.eval x) := by
  cases x with
  | tmp d => exact h d rfl
  | const v => exact ofVal_ok E v
  | global g => exact .any _
  | func f => exact .one _ _ (.fn f [] #[] (fun _ => undef) rfl (fun j c h => by simp at h) (fun j c h => by simp at h))

/-! ### Guards -/

theorem lset_self {α : Type} (d0 : α) : ∀ (l : List α) (i : Nat) (v : α), lget d0 l i = v → lset l i v = l
  | [], i, v, _ => rfl
  | x :: l, 0, v, h => by simp only [lget] at h; simp [lset, h]
  | x :: l, i + 1, v, h => by simp only [lget] at h; simp [lset, lset_self d0 l i v h]

theorem guardA_eq (ops : Array Oper) (ts : List AV) (o : Oper) (yes no : List AV → T) : guardA ops ts o yes no = guardB ops ts o (yes ts) (no ts) := by
  unfold guardA guardB
  split
  · rfl
  · next j want _ =>
    split
    · next d _ =>
      split
      · next b hb =>
        have := lset_self _ ts d _ hb
        cases b <;> cases want <;> simp [this]
      · rfl
      · rfl
      · rfl
    · rfl

theorem knowA_eq {ts : List AV} {c : Operand} {b : Bool} (h : evA ts c = .one (.bool b)) : knowA ts c b = ts := by
  unfold knowA
  split
  · next d => exact lset_self _ ts d _ h
  · rfl

theorem guardB_ok {E : Env} {Φ : Post} {ops : Array Oper} {ts : List AV} {vs : Array Value} {o : Oper} {yes no : T}
    (h : ∀ j w d, o.guard = some (j, w) → (ops[j]?).bind (·.dst) = some d → VRel E (lget (.tup []) ts d) (vs.getD d undef)) (H : TOk Φ (guardB ops ts o yes no)) :
    (Region.wanted o (yielded ops vs) = true ∧ guardB ops ts o yes no = yes ∧ TOk Φ yes) ∨ (Region.wanted o (yielded ops vs) = false ∧ guardB ops ts o yes no = no ∧ TOk Φ no) := by
  unfold guardB at *
  unfold Region.wanted
  cases hg : o.guard with
  | none => rw [hg] at H; exact .inl ⟨rfl, rfl, H⟩
  | some jw =>
    obtain ⟨j, want⟩ := jw
    rw [hg] at H
    simp only at H ⊢
    cases hd : (ops[j]?).bind (·.dst) with
    | none =>
      rw [hd] at H
      refine .inr ⟨?_, rfl, H⟩
      simp [yielded, hd]
    | some d =>
      rw [hd] at H
      have hv := h j want d hg hd
      have hy : yielded ops vs j = match vs.getD d undef with | .bool b => some b | _ => none := by
        simp only [yielded, hd, Option.bind_some, Array.getD_eq_getD_getElem?]
        cases hq : vs[d]? with
        | none => rfl
        | some u => cases u <;> rfl
      rw [hy]
      simp only at H ⊢
      generalize vs.getD d undef = u at *
      generalize lget (.tup []) ts d = a at *
      cases hv with
      | one c u hc =>
        cases hc with
        | bool b =>
          simp only at H ⊢
          cases hb : (b == want) with
          | true => rw [hb] at H; exact .inl ⟨by simpa using hb, rfl, H⟩
          | false => rw [hb] at H; exact .inr ⟨by simpa using hb, rfl, H⟩
        | top => exact H.elim
        | _ => exact .inr ⟨rfl, rfl, H⟩
      | any => exact H.elim
      | _ => exact .inr ⟨rfl, rfl, H⟩

/-! ### Calls -/

/-- What a call of a function comes to. -/
def FnOk (P : Program) (f : FuncId) (vals : Array Value) (w : World) (R : Value → World → Prop) : Prop :=
  ((callFunc f vals).run P w = .ok (.enter f vals) w ∧ Calls P f vals w fun e w' => ∃ u, e = .returned u ∧ R u w') ∨ ∃ u w', (callFunc f vals).run P w = .ok (.value u) w' ∧ R u w'

def OpOk (P : Program) (o : Oper) (a : Act) (w : World) (R : Value → World → Prop) : Prop :=
  ∀ (next : Act → World → Prop) (Q : Exit → Act → World → Prop), (∀ u w', R u w' → next (a.put o.dst u) w') → o.wp P a w next Q

/-- What is behind. -/
def Behind (E : Env) (F : Fr) (nx : Nat) (w : World) (wb : Bool) (v : AV) (h' : Heap) (nx' : Nat) (u : Value) (w' : World) : Prop :=
  ∃ E', E.le E' ∧ VRel E' v u ∧ Good E' h' nx' w' ∧ Framed F E' h' w' ∧ (wb = true ∨ Kept E E' nx w w')

def ArgsRel (E : Env) (as : List AV) (vals : Array Value) : Prop := vals.size = as.length ∧ ∀ (j : Nat) (a : AV) (u : Value), as[j]? = some a → vals[j]? = some u → VRel E a u

abbrev CallK := FuncId → List AV → Heap → Nat → (AV → Heap → Nat → T) → T

/-- A call's outcome does not hang on what is done with it. -/
def CallKHom (callK : CallK) : Prop :=
  ∀ (g : T → T), Strict T.fail T.fail g → (∀ t s, g (.leaf t s) = .fail "leaf") → ∀ f as h nx k, g (callK f as h nx k) = callK f as h nx (fun v h n => g (k v h n))

/-- A known way to call functions. -/
structure CallKOK (P : Program) (ro : FuncId → Bool) (callK : CallK) : Prop where
  hom : CallKHom callK
  sound : ∀ f as h nx v h' nx', callK f as h nx T.done = T.done v h' nx' → nx ≤ nx' ∧ ∀ (E : Env) (F : Fr) (w : World) (vals : Array Value), ArgsRel E as vals → Good E h nx w → Framed F E h w →
    FnOk P f vals w (Behind E F nx w (!(ro f)) v h' nx')

theorem calleeA_ok {E : Env} {ev : Operand → AV} {ρ : Operand → Value} {f : Operand} {as : Array Operand} {ts : Array TypeId} {g : FuncId} {vs : List AV} (hf : VRel E (ev f) (ρ f)) (ha : ∀ x ∈ as, VRel E (ev x) (ρ x))
    (h : calleeA { callee := .value f, args := as, argTypes := ts } ev = some (g, vs)) : ∃ caps, ρ f = .func (.func g) #[] caps ∧ ArgsRel E vs (as.map ρ ++ caps) ∧ ∃ l, ev f = .one (.fn g l) := by
  simp only [calleeA] at h
  split at h
  · next g' caps he =>
    simp only [Option.some.injEq, Prod.mk.injEq] at h
    obtain ⟨rfl, rfl⟩ := h
    rw [he] at hf
    generalize hv : ρ f = vf at hf
    cases hf with | one _ _ hf =>
    cases hf with | fn _ _ vs us hn hu hr =>
    refine ⟨vs, rfl, ⟨by simp [hn], fun j a u ha' hu' => ?_⟩, caps, he⟩
    by_cases hj : j < as.size
    · rw [List.getElem?_append_left (by simpa using hj)] at ha'
      rw [Array.getElem?_append_left (by simpa using hj)] at hu'
      simp only [List.getElem?_map, Array.getElem?_toList, Option.map_eq_some_iff, Array.getElem?_map] at ha' hu'
      obtain ⟨x, h1, rfl⟩ := ha'
      obtain ⟨y, h2, rfl⟩ := hu'
      rw [h1] at h2; cases h2
      exact ha x (Array.mem_of_getElem? h1)
    · rw [List.getElem?_append_right (by simpa using hj)] at ha'
      rw [Array.getElem?_append_right (by simpa using hj)] at hu'
      simp only [List.getElem?_map, Option.map_eq_some_iff] at ha'
      obtain ⟨c, h1, rfl⟩ := ha'
      simp only [List.length_map, Array.length_toList, Array.size_map] at h1 hu'
      have := hu _ c h1
      rw [this] at hu'; cases hu'
      exact .one _ _ (hr _ c h1)
  · cases h

theorem operA_hom {g : T → T} (hg : Strict T.fail T.fail g) (hl : ∀ t s, g (.leaf t s) = .fail "leaf") {callK : CallK} (ck : CallKHom callK) (o : Op) (ev : Operand → AV) (h : Heap) (nx : Nat) (k : AV → Heap → Nat → T) :
    g (operA P callK o ev h nx k) = operA P callK o ev h nx (fun v h n => g (k v h n)) := by
  unfold operA
  split
  · split
    · exact ck g hg hl _ _ _ _ _
    · exact hg _
  · exact opA_hom hg _ _ _ _ _ _

/-- An operation's outcome is one, whatever is done with it. -/
theorem operA_out {Φ : Post} {ro : FuncId → Bool} {callK : CallK} (ck : CallKOK P ro callK) {o : Op} {ev : Operand → AV} {h : Heap} {nx : Nat} {k : AV → Heap → Nat → T} (H : TOk Φ (operA P callK o ev h nx k)) :
    ∃ v h' nx', operA P callK o ev h nx T.done = T.done v h' nx' ∧ TOk Φ (k v h' nx') := by
  let g : T → T := fun t => match t with | .fail s => .fail s | .done v h n => k v h n | .leaf _ _ => .fail "leaf"
  have hh := operA_hom (P := P) (g := g) (fun _ => rfl) (fun _ _ => rfl) ck.hom o ev h nx T.done
  have : operA P callK o ev h nx k = g (operA P callK o ev h nx T.done) := hh.symm
  rw [this] at H
  cases hq : operA P callK o ev h nx T.done with
  | fail s => rw [hq] at H; exact H.elim
  | leaf t s => rw [hq] at H; exact H.elim
  | done v h' n => rw [hq] at H; exact ⟨v, h', n, rfl, H⟩

/-- An operation is as it is said to be. -/
def OpSound (P : Program) (wb : Bool) (o : Oper) (ev : Operand → AV) (h : Heap) (nx : Nat) (v : AV) (h' : Heap) (nx' : Nat) : Prop :=
  nx ≤ nx' ∧ ∀ (E : Env) (F : Fr) (w : World) (a : Act), (∀ x ∈ o.op.operands, VRel E (ev x) (a.eval x)) → Good E h nx w → Framed F E h w → OpOk P o a w (Behind E F nx w wb v h' nx')

theorem opA_congr (o : Op) (args : Array TypeId → Nat → TypeId) (ev : Operand → AV) (h : Heap) (nx : Nat) {k k' : AV → Heap → Nat → T} (h0 : ∀ v h, k v h nx = k' v h nx) (h1 : ∀ v h, k v h (nx + 1) = k' v h (nx + 1)) :
    opA P o args ev h nx k = opA P o args ev h nx k' := by
  unfold opA
  simp only [h0, h1]

theorem opA_mono {o : Op} {args : Array TypeId → Nat → TypeId} {ev : Operand → AV} {h : Heap} {nx : Nat} {v : AV} {h' : Heap} {n' : Nat} (H : opA P o args ev h nx T.done = T.done v h' n') : nx ≤ n' := by
  let g : T → T := fun t => match t with | .fail s => .fail s | .done v h n => (if nx ≤ n then .done v h n else .fail "") | .leaf t s => .leaf t s
  have h1 : opA P o args ev h nx T.done = opA P o args ev h nx (fun v h n => g (T.done v h n)) := opA_congr o args ev h nx (fun v h => by simp [g]) (fun v h => by simp [g])
  have h2 := opA_hom (P := P) (g := g) (fun _ => rfl) o args ev h nx T.done
  rw [← h1, H] at h2
  by_cases hn : nx ≤ n'
  · exact hn
  · simp [g, hn] at h2

theorem operA_sound {ro : FuncId → Bool} {callK : CallK} (ck : CallKOK P ro callK) {o : Oper} {ev : Operand → AV} {h : Heap} (h0 : Heap) {nx : Nat} {v : AV} {h' : Heap} {nx' : Nat}
    (H : operA P callK o.op ev h nx T.done = T.done v h' nx') : OpSound P (fpOf ro h0 o.op ev).1 o ev h nx v h' nx' := by
  have plain : (isW o.op = true → (fpOf ro h0 o.op ev).1 = true) → opA P o.op argTy ev h nx T.done = T.done v h' nx' → OpSound P (fpOf ro h0 o.op ev).1 o ev h nx v h' nx' := by
    intro hw H
    refine ⟨opA_mono H, fun E F w a hev g f => ?_⟩
    have hT : TOk { d := fun a h n => a = v ∧ h = h' ∧ n = nx', l := fun _ _ => False } (opA P o.op argTy ev h nx T.done) := by rw [H]; exact ⟨rfl, rfl, rfl⟩
    obtain ⟨a', h'', n'', _, ⟨u, w', E', h1, h2, h3, h4, h5, h6⟩, h7, h8, h9⟩ := opA_ok g f (ρ := a.eval) hev hT
    subst h7; subst h8; subst h9
    intro next Q hn
    have hb : Behind E F nx w (fpOf ro h0 o.op ev).1 a' h'' n'' u w' := ⟨E', h2, h3, h4, h5, h6.imp hw id⟩
    unfold Oper.wp
    rcases h1 with h1 | ⟨h1, rfl⟩
    · rw [h1]; exact hn _ _ hb
    · rw [h1]; exact hn _ _ hb
  unfold operA at H
  split at H
  · next f as ts ho =>
    split at H
    · next g vs hc =>
      obtain ⟨h1, h2⟩ := ck.sound _ _ _ _ _ _ _ H
      refine ⟨h1, fun E F w a hev gd fd => ?_⟩
      rw [ho] at hev
      obtain ⟨caps, q1, q2, l, q3⟩ := calleeA_ok (hev f (by simp [Op.operands, Call.operands])) (fun x hx => hev x (by simp [Op.operands, Call.operands, hx])) hc
      have hro : (fpOf ro h0 o.op ev).1 = !(ro g) := by rw [ho]; simp [fpOf, q3]
      rw [hro]
      intro next Q hn
      unfold Oper.wp
      have hr : (execOp a.eval o).run P w = (callFunc g (as.map a.eval ++ caps)).run P w := by
        simp [execOp, ho, resolve, Deferred.ofValue, q1, invoke]
      rw [hr]
      rcases h2 E F w _ q2 gd fd with ⟨r1, r2⟩ | ⟨u, w', r1, r2⟩
      · rw [r1]
        rw [Oper.upon_enter]
        refine r2.mono fun e w' he => ?_
        obtain ⟨u, rfl, hu⟩ := he
        exact hn u w' hu
      · rw [r1]
        exact hn u w' r2
    · cases H
  · next hno =>
    refine plain (fun hw => ?_) H
    unfold isW at hw
    split at hw
    · next heq => rw [heq]; rfl
    · next heq => rw [heq]; rfl
    · next heq => rw [heq]; rfl
    · next heq => rw [heq]; rfl
    · next heq => rw [heq]; exact hw
    · cases hw
end
end Go.Ab

/- The abstract machine: operations one behind the other. -/
namespace Go.Ab
section
variable {P : Program}

/-- The frame and the world are as it is said. -/
structure Rep (E : Env) (F : Fr) (s : St) (a : Act) (w : World) : Prop where
  tmps : TmpsRel E s.tmps a.tmps
  good : Good E s.heap s.next w
  framed : Framed F E s.heap w
  defers : a.defers = []

theorem Rep.put {E E' : Env} {F : Fr} {s : St} {a : Act} {w w' : World} (r : Rep E F s a w) (hE : E.le E') (dst : Option Tmp) {v : AV} {u : Value} {h' : Heap} {nx' : Nat} (hv : VRel E' v u) (g : Good E' h' nx' w') (f : Framed F E' h' w') :
    Rep E' F ⟨putA s.tmps dst v, h', nx'⟩ (a.put dst u) w' := ⟨(r.tmps.sub hE.sub).put dst hv, g, f, by rw [defers_put]; exact r.defers⟩

theorem seqA_ok {ro : FuncId → Bool} {callK : CallK} (ck : CallKOK P ro callK) {Φ : Post} {ops : Array Oper} {k : St → T} {E0 : Env} {F : Fr} {n0 : Nat} {Q : Exit → Act → World → Prop}
    (hQ : ∀ E s a w, E0.le E → n0 ≤ s.next → Rep E F s a w → TOk Φ (k s) → Q .normal a w) :
    ∀ (l : List Oper) (i : Nat) (s : St) (E : Env) (a : Act) (w : World), (∀ j o, l[j]? = some o → ops[i + j]? = some o) → E0.le E → n0 ≤ s.next → Rep E F s a w → TOk Φ (seqA P callK ops l s k) → wpOps P ops Q (List.range' i l.length) a w
  | [], i, s, E, a, w, _, hE, hn, r, H => by simpa [wpOps] using hQ E s a w hE hn r H
  | o :: l, i, s, E, a, w, hl, hE, hn, r, H => by
    have ho : ops[i]? = some o := by simpa using hl 0 o rfl
    have hl' : ∀ j o', l[j]? = some o' → ops[i + 1 + j]? = some o' := fun j o' hj => by
      have := hl (j + 1) o' (by simpa using hj)
      rw [show i + 1 + j = i + (j + 1) by omega]; exact this
    simp only [seqA, guardA_eq] at H
    simp only [List.length_cons, List.range'_succ, wpOps, ho]
    rcases guardB_ok (E := E) (vs := a.tmps) (fun _ _ d _ _ => r.tmps.get d) H with ⟨hw, _, H⟩ | ⟨hw, _, H⟩
    · rw [if_pos hw]
      obtain ⟨v, h', nx', h1, h2⟩ := operA_out ck H
      obtain ⟨q1, q2⟩ := operA_sound ck s.heap h1
      refine .inl (q2 E F w a (fun x _ => evA_ok x fun d _ => r.tmps.get d) r.good r.framed _ _ fun u w' hb => ?_)
      obtain ⟨E', e1, e2, e3, e4, _⟩ := hb
      exact seqA_ok ck hQ l (i + 1) _ E' _ _ hl' (Env.le_trans hE e1) (Nat.le_trans hn q1) (r.put e1 o.dst e2 e3 e4) h2
    · rw [if_neg (by simp [hw])]
      exact seqA_ok ck hQ l (i + 1) ⟨putA s.tmps o.dst (.tup []), s.heap, s.next⟩ E _ _ hl' hE hn (r.put (Env.le_refl E) o.dst (undef_ok E) r.good r.framed) H
end
end Go.Ab

/- The abstract machine: an object that nobody changes any more. -/
namespace Go.Ab
section
variable {P : Program}

theorem fzC_go (k : Nat) (o : AObj) : ∀ (cs : List AC), fzC.go k o cs = cs.map (fzC k o)
  | [] => rfl
  | c :: cs => by simp [fzC.go, fzC_go k o cs]
theorem fzV_go (k : Nat) (o : AObj) : ∀ (vs : List AV), fzV.go k o vs = vs.map (fzV k o)
  | [] => rfl
  | c :: cs => by simp [fzV.go, fzV_go k o cs]
theorem fzT_eq (k : Nat) (o : AObj) : ∀ (vs : List AV), fzT k o vs = vs.map (fzV k o)
  | [] => rfl
  | c :: cs => by simp [fzT, fzT_eq k o cs]

theorem hget_fzH (k : Nat) (o : AObj) : ∀ (h : Heap) (j : Nat), hget (fzH k o h) j = if j = k then .none else fzO k o (hget h j)
  | [], j => by simp [fzH, hget, fzO]
  | (i, x) :: h, j => by
    simp only [fzH, hget]
    cases hq : Nat.beq i j with
    | true =>
      have := beqN hq; subst this
      simp only [cond_true]
      cases hk : Nat.beq i k with
      | true => have := beqN hk; simp [this]
      | false =>
        have : i ≠ k := by rintro rfl; simp at hk
        simp [this]
    | false =>
      simp only [cond_false]
      exact hget_fzH k o h j

/-- The cells of an object's block, not changed any more. -/
def Env.frozen (E : Env) (k : Nat) (m : Array Value) : Env := { E with mem := fun b => if E.blk k = some b then some m else E.mem b }

/-- What E' says of object k, that is not changed any more. -/
structure FzMap (k : Nat) (o : AObj) (E E' : Env) : Prop where
  sub : E.sub E'
  ints : ∀ kd n xs, o = .arri kd n xs ∨ o = .bufi kd n xs → xs.length = n ∧ ∀ b, E.blk k = some b → ∃ m, E'.mem b = some m ∧ Ints kd xs m (E.base k)
  cells : ∀ cs, (∃ n, o = .arrc n cs ∧ cs.length = n) ∨ (∃ sz n, o = .bufc sz n cs) → ∀ b, E.blk k = some b → ∃ m, E'.mem b = some m ∧ Cells E' cs m (E.base k)
  len : ∀ n cs, o = .arrc n cs → cs.length = n
  lenb : ∀ sz n cs, o = .bufc sz n cs → cs.length = n * sz
  sizei : ∀ kd n xs, o = .arri kd n xs → E.base k = 0 ∧ E.size k = n
  sizec : ∀ n cs, o = .arrc n cs → E.base k = 0 ∧ E.size k = n

theorem subc_eq {α : Type} (xs : List α) (off len n : Nat) (hn : xs.length = n) : cond (Nat.beq off 0 && Nat.beq len n) xs (sub xs off len) = sub xs off len := by
  cases hq : (Nat.beq off 0 && Nat.beq len n) with
  | false => rfl
  | true =>
    simp only [Bool.and_eq_true] at hq
    have h1 := beqN hq.1; have h2 := beqN hq.2
    subst h1; subst h2
    simp [sub, List.take_of_length_le, hn]

theorem okC_go (k : Nat) (o : AObj) : ∀ (cs : List AC), okC.go k o cs = cs.all (okC k o)
  | [] => rfl
  | c :: cs => by simp [okC.go, okC_go k o cs]
theorem okV_go (k : Nat) (o : AObj) : ∀ (vs : List AV), okV.go k o vs = vs.all (okV k o)
  | [] => rfl
  | c :: cs => by simp [okV.go, okV_go k o cs]

theorem cond_and (a b : Bool) (x y : T) : cond (a && b) x y = cond a (cond b x y) y := by cases a <;> rfl

mutual
theorem okCK_eq (k : Nat) (o : AObj) : ∀ (c : AC) (y n : T), okCK k o c y n = cond (okC k o c) y n
  | .sl key off len sz cap, y, n => by
    simp only [okCK, okC]
    cases Nat.beq key k with
    | false => rfl
    | true => cases o <;> simp only [cond_true, cond_and]
  | .fn f caps, y, n => by simp only [okCK, okC]; exact okCK_go_eq k o caps y n
  | .ifc t c, y, n => by simp only [okCK, okC]; exact okCK_eq k o c y n
  | .top, _, _ | .int _ _, _, _ | .bool _, _, _ | .str _, _, _ | .nilp, _, _ | .nilf, _, _ | .nili, _, _ | .nils, _, _ | .nilm, _, _ | .emp, _, _ | .mt, _, _ | .ptr _ _, _, _ | .imi _ _ _, _, _ | .imc _ _ _, _, _ | .pim _ _, _, _ | .pic _, _, _ | .mp _, _, _ => rfl
theorem okCK_go_eq (k : Nat) (o : AObj) : ∀ (cs : List AC) (y n : T), okCK.go k o cs y n = cond (okC.go k o cs) y n
  | [], y, n => rfl
  | c :: cs, y, n => by simp only [okCK.go, okC.go, cond_and, okCK_eq k o c, okCK_go_eq k o cs]
end
theorem okCsK_eq (k : Nat) (o : AObj) : ∀ (cs : List AC) (y n : T), okCsK k o cs y n = cond (cs.all (okC k o)) y n
  | [], y, n => rfl
  | c :: cs, y, n => by simp only [okCsK, List.all_cons, cond_and, okCK_eq k o c, okCsK_eq k o cs]
mutual
theorem okVK_eq (k : Nat) (o : AObj) : ∀ (v : AV) (y n : T), okVK k o v y n = cond (okV k o v) y n
  | .one c, y, n => okCK_eq k o c y n
  | .agg cs, y, n => okCsK_eq k o cs y n
  | .tup vs, y, n => by simp only [okVK, okV]; exact okVK_go_eq k o vs y n
  | .iagg _ _ _, _, _ | .any, _, _ => rfl
theorem okVK_go_eq (k : Nat) (o : AObj) : ∀ (vs : List AV) (y n : T), okVK.go k o vs y n = cond (okV.go k o vs) y n
  | [], y, n => rfl
  | v :: vs, y, n => by simp only [okVK.go, okV.go, cond_and, okVK_eq k o v, okVK_go_eq k o vs]
end
theorem okVsK_eq (k : Nat) (o : AObj) : ∀ (vs : List AV) (y n : T), okVsK k o vs y n = cond (vs.all (okV k o)) y n
  | [], y, n => rfl
  | c :: cs, y, n => by simp only [okVsK, List.all_cons, cond_and, okVK_eq k o c, okVsK_eq k o cs]
theorem okEsK_eq (k : Nat) (o : AObj) : ∀ (es : List (Int × AV)) (y n : T), okEsK k o es y n = cond (es.all fun e => okV k o e.2) y n
  | [], y, n => rfl
  | c :: cs, y, n => by simp only [okEsK, List.all_cons, cond_and, okVK_eq k o c.2, okEsK_eq k o cs]
theorem okOK_eq (k : Nat) (o x : AObj) (y n : T) : okOK k o x y n = cond (okO k o x) y n := by
  cases x with
  | arrc m cs => exact okCsK_eq k o cs y n
  | mapi es kd => exact okEsK_eq k o es y n
  | _ => rfl
theorem okHK_eq (k : Nat) (o : AObj) : ∀ (h : Heap) (y n : T), okHK k o h y n = cond (h.all fun p => Nat.beq p.1 k || okO k o p.2) y n
  | [], y, n => rfl
  | p :: h, y, n => by
    simp only [okHK, List.all_cons, cond_and, okHK_eq k o h, okOK_eq]
    cases Nat.beq p.1 k <;> simp
theorem okZsK_eq : ∀ (zs : List Nat) (s : St) (y n : T), okZsK zs s y n = cond (okZs zs s) y n
  | [], s, y, n => rfl
  | k :: zs, s, y, n => by simp only [okZsK, okZs, okSt, cond_and, okVsK_eq, okHK_eq, okZsK_eq zs]

theorem fzI_ok {E E' : Env} {k off len : Nat} {cap : Option Nat} {v : Value} {kd : IntKind} {n : Nat} {xs : List Int} (h : CRel E (.sl k off len 1 cap) v) (hl : xs.length = n)
    (hle : len ≠ 0 → off + len ≤ n) (hb : ∀ b, E.blk k = some b → ∃ m, E'.mem b = some m ∧ Ints kd xs m (E.base k)) : CRel E' (fzI kd n xs off len) v := by
  unfold fzI
  rw [subc_eq xs off len n hl]
  cases h with | sl _ _ _ _ _ a c hlc hcap ha =>
  have hz : a = none → c = 0 := by
    rintro rfl
    rcases ha with h | ⟨_, _, h, _⟩
    · exact h
    · cases h
  by_cases h0 : len = 0
  · subst h0
    refine .imi _ _ _ a c (by simp [sub]) hlc hz (.inl rfl)
  · refine .imi _ _ _ a c (length_sub xs off len (by have := hle h0; omega)) hlc hz (.inr ?_)
    obtain ⟨b, hbk, rfl, hsz⟩ := ha.resolve_left (by omega)
    obtain ⟨m, hm, hi⟩ := hb b hbk
    refine ⟨b, _, m, rfl, hm, fun j x hj => ?_⟩
    rw [sub_get] at hj
    split at hj
    · rw [Nat.add_assoc]; exact hi _ x hj
    · cases hj

theorem fzS_ok {E E' : Env} {k off len sz : Nat} {cap : Option Nat} {v : Value} {n : Nat} {cs : List AC} (h : CRel E (.sl k off len sz cap) v) (hl : cs.length = n)
    (hle : len ≠ 0 → off + len * sz ≤ n) (hnk : (sub cs off (len * sz)).all nokeys = true) (hb : ∀ b, E.blk k = some b → ∃ m, E'.mem b = some m ∧ Cells E' cs m (E.base k)) : CRel E' (fzS n cs off len sz) v := by
  unfold fzS
  have hnk := NK.of_all hnk
  rw [subc_eq cs off (len * sz) n hl]
  cases h with | sl _ _ _ _ _ a c hlc hcap ha =>
  by_cases h0 : len = 0
  · subst h0
    simp only [Nat.zero_mul, sub, List.take_zero]
    exact .imc0 sz a c
  · obtain ⟨b, hbk, rfl, hsz⟩ := ha.resolve_left (by omega)
    obtain ⟨m, hm, hi⟩ := hb b hbk
    have hle := hle h0
    refine .imc sz len _ b _ c m (fun j => (m[E.base k + off + j]?).getD undef) (length_sub cs off _ (by omega)) hlc hm hnk ?_ ?_
    · intro j x hj
      rw [sub_get] at hj
      split at hj
      · obtain ⟨u, hu, _⟩ := hi _ x hj
        rw [Nat.add_assoc, hu]; rfl
      · cases hj
    · intro j x hj
      rw [sub_get] at hj
      split at hj
      · obtain ⟨u, hu, hr⟩ := hi _ x hj
        rw [Nat.add_assoc, hu]; exact hr
      · cases hj

theorem CRel.fz {k : Nat} {o : AObj} {E E' : Env} (hz : FzMap k o E E') {c : AC} {v : Value} (h : CRel E c v) : okC k o c = true → CRel E' (fzC k o c) v := by
  induction h with
  | top v h => intro _; exact .top v h
  | int k n => intro _; exact .int k n
  | bool b => intro _; exact .bool b
  | str s => intro _; exact .str s
  | nilp => intro _; exact .nilp
  | nilf => intro _; exact .nilf
  | nili => intro _; exact .nili
  | nils => intro _; exact .nils
  | emp a => intro _; exact .emp a
  | mt a c => intro _; exact .mt a c
  | nilm => intro _; exact .nilm
  | ptr key off b hb =>
    intro _
    have hp : CRel E (.ptr key off) _ := .ptr key off b hb
    simp only [fzC]
    cases Nat.beq key k with
    | true => exact .top _ rfl
    | false => exact hp.sub hz.sub
  | sl key off len sz cap a c hl hc ha =>
    intro hq0
    have hp : CRel E (.sl key off len sz cap) (.slice a len c) := .sl key off len sz cap a c hl hc ha
    simp only [fzC]
    simp only [okC] at hq0
    cases hq : Nat.beq key k with
    | false => exact hp.sub hz.sub
    | true =>
      have := beqN hq
      subst this
      simp only [cond_true]
      simp only [Nat.beq_refl, cond_true] at hq0
      have ext : len ≠ 0 → E.base key + off + len * sz ≤ E.size key := fun h0 => by
        obtain ⟨b, _, _, h3⟩ := ha.resolve_left (by omega)
        have := Nat.mul_le_mul_right sz hl
        omega
      cases o with
      | none => exact .top _ rfl
      | arri kd n xs =>
        have := beqN hq0; subst this
        obtain ⟨z1, z2⟩ := hz.sizei kd n xs rfl
        exact fzI_ok hp (hz.ints kd n xs (.inl rfl)).1 (fun h0 => by have := ext h0; omega) (hz.ints kd n xs (.inl rfl)).2
      | bufi kd n xs =>
        simp only [Bool.and_eq_true] at hq0
        have := beqN hq0.1; subst this
        exact fzI_ok hp (hz.ints kd n xs (.inr rfl)).1 (fun _ => bleN hq0.2) (hz.ints kd n xs (.inr rfl)).2
      | arrc n cs =>
        obtain ⟨z1, z2⟩ := hz.sizec n cs rfl
        exact fzS_ok hp (hz.len n cs rfl) (fun h0 => by have := ext h0; omega) hq0 (hz.cells cs (.inl ⟨n, rfl, hz.len n cs rfl⟩))
      | bufc sz' n cs =>
        simp only [Bool.and_eq_true] at hq0
        have := beqN hq0.1.1; subst this
        exact fzS_ok hp (hz.lenb _ n cs rfl) (fun _ => bleN hq0.1.2) hq0.2 (hz.cells cs (.inr ⟨_, n, rfl⟩))
      | mapi es kd => exact .top _ rfl
  | imi kd n xs a c hn hl hz' ha => intro _; exact (CRel.imi (E := E) kd n xs a c hn hl hz' ha).sub hz.sub
  | imc0 sz a c => intro _; exact .imc0 sz a c
  | imc sz n xs b o c m us hn hl hm hk hu hr _ => intro _; exact (CRel.imc (E := E) sz n xs b o c m us hn hl hm hk hu hr).sub hz.sub
  | pim kd n b o m hm hu => intro _; exact .pim kd n b o m (hz.sub.mem _ _ hm) hu
  | pic xs b o m us hm hk hu hr _ => intro _; exact (CRel.pic (E := E) xs b o m us hm hk hu hr).sub hz.sub
  | fn f caps vs us hn hu _ ih =>
    intro hq0
    simp only [okC, okC_go, List.all_eq_true] at hq0
    simp only [fzC, fzC_go]
    refine .fn f _ vs us (by rw [hn, List.length_map]) (fun j c hj => ?_) (fun j c hj => ?_)
    · rw [List.getElem?_map] at hj
      cases hc : caps[j]? with
      | none => rw [hc] at hj; cases hj
      | some c' => exact hu j c' hc
    · rw [List.getElem?_map] at hj
      cases hc : caps[j]? with
      | none => rw [hc] at hj; cases hj
      | some c' =>
        rw [hc] at hj; cases hj
        exact ih j c' hc (hq0 c' (List.mem_of_getElem? hc))
  | ifc t c v _ ih => intro hq0; exact .ifc t _ v (ih hq0)
  | mp key b hb =>
    intro _
    have hp : CRel E (.mp key) _ := .mp key b hb
    simp only [fzC]
    cases Nat.beq key k with
    | true => exact .top _ rfl
    | false => exact hp.sub hz.sub

theorem Cells.fz {k : Nat} {o : AObj} {E E' : Env} (hz : FzMap k o E E') {cs : List AC} {m : Array Value} {i : Nat} (h : Cells E cs m i) (hq : cs.all (okC k o) = true) : Cells E' (cs.map (fzC k o)) m i := by
  intro j c hj
  rw [List.getElem?_map] at hj
  cases hc : cs[j]? with
  | none => rw [hc] at hj; cases hj
  | some c' =>
    rw [hc] at hj; cases hj
    obtain ⟨u, h1, h2⟩ := h j c' hc
    exact ⟨u, h1, h2.fz hz (List.all_eq_true.1 hq _ (List.mem_of_getElem? hc))⟩

theorem VRel.fz {k : Nat} {o : AObj} {E E' : Env} (hz : FzMap k o E E') {a : AV} {v : Value} (h : VRel E a v) : okV k o a = true → VRel E' (fzV k o a) v := by
  induction h with
  | one c v h => intro hq; exact .one _ v (h.fz hz hq)
  | agg cs vs hn h => intro hq; exact .agg _ vs (by rw [hn, List.length_map]) (h.fz hz hq)
  | iagg kd n xs vs hn hx h => intro _; exact .iagg kd n xs vs hn hx h
  | any v => intro _; exact .any v
  | tup as vs hn _ ih =>
    intro hq
    simp only [okV, okV_go, List.all_eq_true] at hq
    simp only [fzV, fzV_go]
    refine .tup _ vs (by rw [hn, List.length_map]) fun j a u hj hu => ?_
    rw [List.getElem?_map] at hj
    cases hc : as[j]? with
    | none => rw [hc] at hj; cases hj
    | some c' =>
      rw [hc] at hj; cases hj
      exact ih j c' u hc hu (hq c' (List.mem_of_getElem? hc))

theorem Holds.fz {k : Nat} {o : AObj} {E E' : Env} (hz : FzMap k o E E') {w : World} {j : Nat} {x : AObj} (h : Holds E w j x) (hq : okO k o x = true) : Holds E' w j (fzO k o x) := by
  cases x with
  | none => trivial
  | arri kd n xs => exact h.sub hz.sub fun _ _ => rfl
  | bufi kd n xs => exact h.sub hz.sub fun _ _ => rfl
  | bufc sz n cs => exact h.sub hz.sub fun _ _ => rfl
  | arrc n cs =>
    obtain ⟨b, c, t, fr, h1, h2, h3, h4, h5, h6, h7, h8⟩ := h
    obtain ⟨e1, e2, e3⟩ := hz.sub.blk _ _ h1
    exact ⟨b, c, t, fr, e1, e2.trans h2, e3.trans h3, by rw [List.length_map]; exact h4, h5, h6, h7, h8.fz hz hq⟩
  | mapi es kd =>
    simp only [okO, List.all_eq_true] at hq
    obtain ⟨b, ents, cl, h1, h2, h3, h4⟩ := h
    obtain ⟨e1, _, _⟩ := hz.sub.blk _ _ h1
    refine ⟨b, ents, cl, e1, h2, by rw [h3, List.length_map], fun i n v hi => ?_⟩
    rw [List.getElem?_map] at hi
    cases hc : es[i]? with
    | none => rw [hc] at hi; cases hi
    | some e =>
      rw [hc] at hi; cases hi
      obtain ⟨e', a1, a2, a3⟩ := h4 i e.1 e.2 hc
      exact ⟨e', a1, a2, a3.fz hz (hq e (List.mem_of_getElem? hc))⟩

theorem fzO_live {k : Nat} {o x : AObj} : (fzO k o x).live ↔ x.live := by cases x <;> exact Iff.rfl

/-- An object is not changed any more. -/
theorem freeze_good {E : Env} {h : Heap} {nx : Nat} {w : World} {F : Fr} (g : Good E h nx w) (f : Framed F E h w) (k : Nat) (hq : ∀ j, j ≠ k → okO k (hget h k) (hget h j) = true) :
    ∃ E', E.le E' ∧ FzMap k (hget h k) E E' ∧ Good E' (fzH k (hget h k) h) nx w ∧ Framed F E' (fzH k (hget h k) h) w := by
  -- with an environment
  have fin : ∀ E', FzMap k (hget h k) E E' → (∀ j, E'.blk j = E.blk j) → E'.lo = E.lo → (∀ b m, E'.mem b = some m → E.mem b = some m ∨ (E.blk k = some b ∧ (hget h k).live ∧ ∃ t fr, w.heap[b]? = some (.cells m t fr))) →
      E.le E' ∧ FzMap k (hget h k) E E' ∧ Good E' (fzH k (hget h k) h) nx w ∧ Framed F E' (fzH k (hget h k) h) w := by
    intro E' hz hbk hlo hmem
    have live' : ∀ j, (hget (fzH k (hget h k) h) j).live → j ≠ k ∧ (hget h j).live := fun j hj => by
      rw [hget_fzH] at hj
      split at hj
      · exact hj.elim
      · next e => exact ⟨e, fzO_live.1 hj⟩
    refine ⟨⟨hz.sub.blk, hz.sub.mem, hlo, fun j b hb => .inl (by rw [← hbk]; exact hb)⟩, hz, ⟨?_, ?_, ?_, ?_, ?_⟩, ⟨f.size, f.old, ?_, ?_, f.os, f.tape, f.output⟩⟩
    · intro j
      rw [hget_fzH]
      split
      · trivial
      · next e => exact (g.holds j).fz hz (hq j e)
    · intro j j' b hj hj' hb hb'
      rw [hbk] at hb hb'
      exact g.inj j j' b (live' j hj).2 (live' j' hj').2 hb hb'
    · intro j b hj hb
      rw [hbk] at hb
      obtain ⟨hne, hl⟩ := live' j hj
      cases hm : E'.mem b with
      | none => rfl
      | some m =>
        rcases hmem b m hm with h1 | ⟨h1, h2, _⟩
        · rw [g.imm j b hl hb] at h1; cases h1
        · exact absurd (g.inj j k b hl h2 hb h1) hne
    · intro b m hm
      rcases hmem b m hm with h1 | ⟨_, _, h3⟩
      · exact g.mem b m h1
      · exact h3
    · intro j hj
      rw [hbk, hlo]
      exact g.fresh j hj
    · intro j b hj hb
      rw [hbk] at hb
      exact f.own j b (live' j hj).2 hb
    · intro b m hm
      rcases hmem b m hm with h1 | ⟨h1, h2, _⟩
      · exact f.memNew b m h1
      · exact .inr (f.own k b h2 h1)
  have hh := g.holds k
  have cellsEnv : ∀ b c t fr, E.blk k = some b → (hget h k).live → w.heap[b]? = some (.cells c t fr) → E.sub (E.frozen k c) ∧ (∀ b' m, (E.frozen k c).mem b' = some m → E.mem b' = some m ∨ (E.blk k = some b' ∧ (hget h k).live ∧ ∃ t fr, w.heap[b']? = some (.cells m t fr))) := by
    intro b c t fr hb hl hw
    refine ⟨⟨fun j b' hj => ⟨hj, rfl, rfl⟩, fun b' m hm => ?_⟩, fun b' m hm => ?_⟩
    · simp only [Env.frozen]
      split
      · next e => rw [g.imm k b' hl e] at hm; cases hm
      · exact hm
    · simp only [Env.frozen] at hm
      split at hm
      · next e =>
        cases hm
        rw [e] at hb; cases hb
        exact .inr ⟨e, hl, t, fr, hw⟩
      · exact .inl hm
  have hmemk : ∀ b c, E.blk k = some b → (E.frozen k c).mem b = some c := fun b c hb => by simp [Env.frozen, hb]
  cases ho : hget h k with
  | none =>
    refine ⟨E, ho ▸ fin E ⟨⟨fun _ _ h => ⟨h, rfl, rfl⟩, fun _ _ h => h⟩, ?_, ?_, ?_, ?_, ?_, ?_⟩ (fun _ => rfl) rfl (fun b m hm => .inl hm)⟩
    · intro kd n xs hx; rw [ho] at hx; rcases hx with hx | hx <;> cases hx
    · intro cs hx; rw [ho] at hx; rcases hx with ⟨_, hx, _⟩ | ⟨_, _, hx⟩ <;> cases hx
    · intro n cs hx; rw [ho] at hx; cases hx
    · intro sz n cs hx; rw [ho] at hx; cases hx
    · intro kd n xs hx; rw [ho] at hx; cases hx
    · intro n cs hx; rw [ho] at hx; cases hx
  | mapi es kd =>
    refine ⟨E, ho ▸ fin E ⟨⟨fun _ _ h => ⟨h, rfl, rfl⟩, fun _ _ h => h⟩, ?_, ?_, ?_, ?_, ?_, ?_⟩ (fun _ => rfl) rfl (fun b m hm => .inl hm)⟩
    · intro kd n xs hx; rw [ho] at hx; rcases hx with hx | hx <;> cases hx
    · intro cs hx; rw [ho] at hx; rcases hx with ⟨_, hx, _⟩ | ⟨_, _, hx⟩ <;> cases hx
    · intro n cs hx; rw [ho] at hx; cases hx
    · intro sz n cs hx; rw [ho] at hx; cases hx
    · intro kd n xs hx; rw [ho] at hx; cases hx
    · intro n cs hx; rw [ho] at hx; cases hx
  | arri kd n xs =>
    rw [ho] at hh
    obtain ⟨b, c, t, fr, h1, h2, h3, h4, h5, h6, h7, h8⟩ := hh
    obtain ⟨s1, s2⟩ := cellsEnv b c t fr h1 (by rw [ho]; trivial) h5
    refine ⟨E.frozen k c, ho ▸ fin _ ⟨s1, ?_, ?_, ?_, ?_, ?_, ?_⟩ (fun _ => rfl) rfl s2⟩
    · intro kd' n' xs' hx; rw [ho] at hx; rcases hx with hx | hx <;> cases hx
      exact ⟨h4, fun b' hb' => ⟨c, hmemk b' c hb', by rw [h2]; exact h8⟩⟩
    · intro cs hx; rw [ho] at hx; rcases hx with ⟨_, hx, _⟩ | ⟨_, _, hx⟩ <;> cases hx
    · intro n cs hx; rw [ho] at hx; cases hx
    · intro sz n cs hx; rw [ho] at hx; cases hx
    · intro kd' n' xs' hx; rw [ho] at hx; cases hx; exact ⟨h2, h3⟩
    · intro n cs hx; rw [ho] at hx; cases hx
  | bufi kd n xs =>
    rw [ho] at hh
    obtain ⟨b, c, t, fr, h1, h2, h3, h4, h5, h6, h7⟩ := hh
    obtain ⟨s1, s2⟩ := cellsEnv b c t fr h1 (by rw [ho]; trivial) h4
    refine ⟨E.frozen k c, ho ▸ fin _ ⟨s1, ?_, ?_, ?_, ?_, ?_, ?_⟩ (fun _ => rfl) rfl s2⟩
    · intro kd' n' xs' hx; rw [ho] at hx; rcases hx with hx | hx <;> cases hx
      exact ⟨h3, fun b' hb' => ⟨c, hmemk b' c hb', h7⟩⟩
    · intro cs hx; rw [ho] at hx; rcases hx with ⟨_, hx, _⟩ | ⟨_, _, hx⟩ <;> cases hx
    · intro n cs hx; rw [ho] at hx; cases hx
    · intro sz n cs hx; rw [ho] at hx; cases hx
    · intro kd n xs hx; rw [ho] at hx; cases hx
    · intro n cs hx; rw [ho] at hx; cases hx
  | arrc n cs =>
    rw [ho] at hh
    obtain ⟨b, c, t, fr, h1, h2, h3, h4, h5, h6, h7, h8⟩ := hh
    obtain ⟨s1, s2⟩ := cellsEnv b c t fr h1 (by rw [ho]; trivial) h5
    refine ⟨E.frozen k c, ho ▸ fin _ ⟨s1, ?_, ?_, ?_, ?_, ?_, ?_⟩ (fun _ => rfl) rfl s2⟩
    · intro kd' n' xs' hx; rw [ho] at hx; rcases hx with hx | hx <;> cases hx
    · intro cs' hx; rw [ho] at hx; rcases hx with ⟨_, hx, _⟩ | ⟨_, _, hx⟩ <;> cases hx
      exact fun b' hb' => ⟨c, hmemk b' c hb', by rw [h2]; exact h8.sub_ s1⟩
    · intro n' cs' hx; rw [ho] at hx; cases hx; exact h4
    · intro sz n cs hx; rw [ho] at hx; cases hx
    · intro kd n xs hx; rw [ho] at hx; cases hx
    · intro n' cs' hx; rw [ho] at hx; cases hx; exact ⟨h2, h3⟩
  | bufc sz n cs =>
    rw [ho] at hh
    obtain ⟨b, c, t, fr, h1, h2, h3, h4, h5, h6, h7, h8⟩ := hh
    obtain ⟨s1, s2⟩ := cellsEnv b c t fr h1 (by rw [ho]; trivial) h4
    refine ⟨E.frozen k c, ho ▸ fin _ ⟨s1, ?_, ?_, ?_, ?_, ?_, ?_⟩ (fun _ => rfl) rfl s2⟩
    · intro kd' n' xs' hx; rw [ho] at hx; rcases hx with hx | hx <;> cases hx
    · intro cs' hx; rw [ho] at hx; rcases hx with ⟨_, hx, _⟩ | ⟨_, _, hx⟩ <;> cases hx
      exact fun b' hb' => ⟨c, hmemk b' c hb', h7.sub_ s1⟩
    · intro n' cs' hx; rw [ho] at hx; cases hx
    · intro sz' n' cs' hx; rw [ho] at hx; cases hx; exact h3
    · intro kd n xs hx; rw [ho] at hx; cases hx
    · intro n' cs' hx; rw [ho] at hx; cases hx

theorem fzT_get (k : Nat) (o : AObj) : ∀ (vs : List AV) (d : Nat), lget (.tup []) (fzT k o vs) d = fzV k o (lget (.tup []) vs d)
  | [], d => by simp [fzT, lget, fzV, fzV.go]
  | v :: vs, 0 => rfl
  | v :: vs, d + 1 => fzT_get k o vs d

theorem hget_mem : ∀ (h : Heap) (k : Nat), hget h k = .none ∨ (k, hget h k) ∈ h
  | [], k => .inl rfl
  | (j, o) :: h, k => by
    simp only [hget]
    cases hq : Nat.beq j k with
    | true => have := beqN hq; subst this; exact .inr (by simp)
    | false =>
      rcases hget_mem h k with h1 | h1
      · exact .inl h1
      · exact .inr (by simp [h1])

theorem Rep.fz {E : Env} {F : Fr} {s : St} {a : Act} {w : World} (r : Rep E F s a w) (k : Nat) (hq : okSt k s = true) : ∃ E', E.le E' ∧ Rep E' F (fzSt k s) a w := by
  simp only [okSt, Bool.and_eq_true, List.all_eq_true] at hq
  obtain ⟨q1, q2⟩ := hq
  obtain ⟨E', h1, h2, h3, h4⟩ := freeze_good r.good r.framed k (fun j hj => by
    rcases hget_mem s.heap j with h | h
    · rw [h]; rfl
    · have := q2 _ h
      have hb : Nat.beq j k = false := by rw [Bool.eq_false_iff]; intro h; exact hj (Nat.eq_of_beq_eq_true h)
      simpa [hb] using this)
  refine ⟨E', h1, ⟨⟨by rw [r.tmps.size]; simp [fzSt, fzT_eq], fun d => ?_⟩, h3, h4, r.defers⟩⟩
  show VRel E' (lget (.tup []) (fzT k (hget s.heap k) s.tmps) d) _
  rw [fzT_get]
  refine (r.tmps.get d).fz h2 ?_
  rw [lget_eq]
  by_cases hd : d < s.tmps.length
  · rw [List.getD_eq_getElem?_getD, List.getElem?_eq_getElem hd]
    exact q1 _ (List.getElem_mem hd)
  · rw [List.getD_eq_getElem?_getD, List.getElem?_eq_none (by omega)]
    rfl

theorem Rep.fzs {F : Fr} {a : Act} {w : World} : ∀ (zs : List Nat) {E : Env} {s : St}, Rep E F s a w → okZs zs s = true → ∃ E', E.le E' ∧ Rep E' F (fzs zs s) a w
  | [], E, s, r, _ => ⟨E, Env.le_refl E, r⟩
  | k :: zs, E, s, r, hq => by
    simp only [okZs, Bool.and_eq_true] at hq
    obtain ⟨E1, h1, r1⟩ := r.fz k hq.1
    obtain ⟨E2, h2, r2⟩ := Rep.fzs zs r1 hq.2
    exact ⟨E2, Env.le_trans h1 h2, r2⟩

theorem fzs_next : ∀ (zs : List Nat) (s : St), (fzs zs s).next = s.next
  | [], _ => rfl
  | k :: zs, s => fzs_next zs (fzSt k s)

theorem okZsK_hom {g : T → T} (zs : List Nat) (s : St) (y n : T) : g (okZsK zs s y n) = okZsK zs s (g y) (g n) := by
  rw [okZsK_eq, okZsK_eq]
  exact hcond g _ _ _
end
end Go.Ab

/- The abstract machine: operations in any order. -/
namespace Go.Ab
section
variable {P : Program}

/-- What a guard says of the abstract frame. -/
def guardIs (ops : Array Oper) (ts : List AV) (o : Oper) : Option Bool :=
  match guardB ops ts o (.done (.tup []) [] 0) (.done (.tup []) [] 1) with
  | .done _ _ 0 => some true
  | .done _ _ 1 => some false
  | _ => none

theorem guardB_is (ops : Array Oper) (ts : List AV) (o : Oper) {Φ : Post} {yes no : T} (H : TOk Φ (guardB ops ts o yes no)) :
    (guardIs ops ts o = some true ∧ TOk Φ yes) ∨ (guardIs ops ts o = some false ∧ TOk Φ no) := by
  unfold guardIs
  unfold guardB at *
  cases hg : o.guard with
  | none => rw [hg] at H; exact .inl ⟨rfl, H⟩
  | some jw =>
    obtain ⟨j, w⟩ := jw
    rw [hg] at H
    simp only at H ⊢
    cases hd : (ops[j]?).bind (·.dst) with
    | none => rw [hd] at H; exact .inr ⟨rfl, H⟩
    | some d =>
      rw [hd] at H
      simp only at H ⊢
      cases hb : lget (.tup []) ts d with
      | one c =>
        rw [hb] at H
        cases c with
        | bool b =>
          simp only at H ⊢
          cases hq : (b == w) with
          | true => rw [hq] at H; exact .inl ⟨rfl, H⟩
          | false => rw [hq] at H; exact .inr ⟨rfl, H⟩
        | top => exact H.elim
        | _ => exact .inr ⟨rfl, H⟩
      | any => rw [hb] at H; exact H.elim
      | _ => rw [hb] at H; exact .inr ⟨rfl, H⟩

theorem guardIs_ok {E : Env} {ops : Array Oper} {ts : List AV} {vs : Array Value} {o : Oper} {b : Bool}
    (h : ∀ j w d, o.guard = some (j, w) → (ops[j]?).bind (·.dst) = some d → VRel E (lget (.tup []) ts d) (vs.getD d undef)) (hb : guardIs ops ts o = some b) : Region.wanted o (yielded ops vs) = b := by
  unfold guardIs at hb
  generalize hq : guardB ops ts o (.done (.tup []) [] 0) (.done (.tup []) [] 1) = t at hb
  have hT : TOk { d := fun _ _ _ => True, l := fun _ _ => False } (guardB ops ts o (.done (.tup []) [] 0) (.done (.tup []) [] 1)) := by
    rw [hq]
    cases t with
    | done => trivial
    | fail => cases hb
    | leaf => cases hb
  rcases guardB_ok h hT with ⟨h1, h2, _⟩ | ⟨h1, h2, _⟩
  · rw [← hq, h2] at hb; simp at hb; rw [h1, hb]
  · rw [← hq, h2] at hb; simp at hb; rw [h1, hb]

/-- A step of the evaluation of a region whose operations come in any order. -/
structure StepD (P : Program) (ops : Array Oper) (o : Oper) (recs : List Rec) (rec : Rec) (s s' : St) (v : AV) (h' : Heap) (rn : Bool) : Prop where
  anc : rec.anc = ancOf recs o
  looks : rec.looks = o.looksAt ops
  dst : rec.dst = o.dst
  tmps : s'.tmps = putA s.tmps o.dst v
  heap : s'.heap = merge s.heap rec.wr h'
  next : s.next ≤ s'.next
  guard : guardIs ops s.tmps o = some rn
  yes : rn = true → ∃ wb, OpSound P wb o (evA s.tmps) (restr s.heap rec.fp) s.next v h' s'.next ∧ ((∀ k ∈ rec.fp, k ∈ rec.wr) ∨ (wb = false ∧ ∀ k ∈ rec.wr, s.next ≤ k))
  no : rn = false → v = .tup [] ∧ rec.wr = [] ∧ rec.fp = [] ∧ s'.next = s.next

inductive Chain (P : Program) (ops : Array Oper) : List Oper → List Rec → St → List Rec → St → Prop
  | nil (recs : List Rec) (s : St) : Chain P ops [] recs s recs s
  | cons (o : Oper) (l : List Oper) (recs recs' : List Rec) (rec : Rec) (s s1 s' : St) (v : AV) (h' : Heap) (rn : Bool) (h : StepD P ops o recs rec s s1 v h' rn) (t : Chain P ops l (recs ++ [rec]) s1 recs' s') : Chain P ops (o :: l) recs s recs' s'

theorem seqD_chain {ro : FuncId → Bool} {callK : CallK} (ck : CallKOK P ro callK) {Φ : Post} {ops : Array Oper} {k : St → T} : ∀ (l : List Oper) (recs : List Rec) (s : St), TOk Φ (seqD P callK ro ops l recs s k) →
    ∃ recs' s', checkFrom 0 recs' = true ∧ TOk Φ (k s') ∧ Chain P ops l recs s recs' s'
  | [], recs, s, H => by
    obtain ⟨h1, h2⟩ := cond_ok H
    exact ⟨recs, s, h1, h2, .nil recs s⟩
  | o :: l, recs, s, H => by
    simp only [seqD, guardA_eq] at H
    rcases guardB_is ops s.tmps o H with ⟨hg, H⟩ | ⟨hg, H⟩
    · obtain ⟨v, h', nx', h1, h2⟩ := operA_out ck H
      have h3 := operA_sound ck s.heap h1
      obtain ⟨recs', s', c1, c2, c3⟩ := seqD_chain ck l _ _ h2
      refine ⟨recs', s', c1, c2, .cons o l recs recs' _ s _ s' v h' true ⟨rfl, rfl, rfl, rfl, rfl, h3.1, hg, fun _ => ⟨_, h3, ?_⟩, fun h => by cases h⟩ c3⟩
      cases hw : (fpOf ro s.heap o.op (evA s.tmps)).1 with
      | true =>
        left
        intro k hk
        simp only [wrOf, cond_true, List.mem_append, List.mem_filter]
        by_cases hh : k ∈ h'.map Prod.fst
        · exact .inl hh
        · refine .inr ⟨hk, ?_⟩
          cases hq : has (h'.map Prod.fst) k with
          | true => exact absurd (has_iff.1 hq) hh
          | false => rfl
      | false =>
        right
        refine ⟨rfl, fun k hk => ?_⟩
        simp only [wrOf, cond_false, List.mem_filter] at hk
        exact bleN hk.2
    · obtain ⟨recs', s', c1, c2, c3⟩ := seqD_chain ck l _ _ H
      exact ⟨recs', s', c1, c2, .cons o l recs recs' ⟨ancOf recs o, o.looksAt ops, o.dst, [], []⟩ s ⟨putA s.tmps o.dst (.tup []), s.heap, s.next⟩ s' (.tup []) [] false ⟨rfl, rfl, rfl, rfl, rfl, Nat.le_refl _, hg, (fun h => by cases h), fun _ => ⟨rfl, rfl, rfl, rfl⟩⟩ c3⟩

/-- The steps, by their numbers. -/
theorem Chain.steps {ops : Array Oper} {l : List Oper} {recs recs' : List Rec} {s s' : St} (c : Chain P ops l recs s recs' s') :
    recs'.length = recs.length + l.length ∧ (∀ j, j < recs.length → recs'[j]? = recs[j]?) ∧ ∃ (f : Nat → St) (vs : Nat → AV) (hs : Nat → Heap) (rn : Nat → Bool), f 0 = s ∧ f l.length = s' ∧
      ∀ i o, l[i]? = some o → ∃ rec, recs'[recs.length + i]? = some rec ∧ StepD P ops o (recs'.take (recs.length + i)) rec (f i) (f (i + 1)) (vs i) (hs i) (rn i) := by
  induction c with
  | nil recs s => exact ⟨by simp, fun _ _ => rfl, fun _ => s, fun _ => .any, fun _ => [], fun _ => true, rfl, rfl, fun i o h => by simp at h⟩
  | cons o l recs recs' rec s s1 s' v h' rn0 hst t ih =>
    obtain ⟨h1, h2, f, vs, hs, rn, f0, f1, f2⟩ := ih
    have e1 : recs'[recs.length]? = some rec := by rw [h2 _ (by simp)]; simp
    have e2 : recs'.take recs.length = recs := by
      apply List.ext_getElem?
      intro j
      rw [List.getElem?_take]
      split
      · next hj => rw [h2 j (by simp; omega), List.getElem?_append_left hj]
      · next hj => rw [List.getElem?_eq_none (by omega)]
    refine ⟨by simp at h1 ⊢; omega, fun j hj => by rw [h2 j (by simp; omega), List.getElem?_append_left hj], fun i => match i with | 0 => s | i + 1 => f i, fun i => match i with | 0 => v | i + 1 => vs i, fun i => match i with | 0 => h' | i + 1 => hs i,
      fun i => match i with | 0 => rn0 | i + 1 => rn i, rfl, by simpa using f1, fun i o' ho' => ?_⟩
    cases i with
    | zero =>
      simp at ho'; subst ho'
      exact ⟨rec, by simpa using e1, by simp only [Nat.add_zero, e2]; rw [f0]; exact hst⟩
    | succ i =>
      obtain ⟨rec', q1, q2⟩ := f2 i o' (by simpa using ho')
      refine ⟨rec', by simpa [Nat.add_assoc, Nat.add_comm 1] using q1, ?_⟩
      have : recs.length + (i + 1) = (recs ++ [rec]).length + i := by simp; omega
      rw [this]; exact q2

theorem check_spec : ∀ (rs : List Rec) (i : Nat), checkFrom i rs = true → (∀ j r, rs[j]? = some r → ∀ a ∈ r.anc, a < i + j) ∧
    ∀ j j' r r', j < j' → rs[j]? = some r → rs[j']? = some r' → (i + j) ∈ r'.anc ∨ apartR r r' = true
  | [], i, _ => ⟨fun j r h => by simp at h, fun j j' r r' _ h => by simp at h⟩
  | x :: rs, i, h => by
    simp only [checkFrom, Bool.and_eq_true] at h
    obtain ⟨⟨h1, h2⟩, h3⟩ := h
    obtain ⟨g1, g2⟩ := check_spec rs (i + 1) h3
    refine ⟨fun j r hj a ha => ?_, fun j j' r r' hlt hj hj' => ?_⟩
    · cases j with
      | zero =>
        simp at hj; subst hj
        have := List.all_eq_true.1 h1 a ha
        exact bltN this
      | succ j =>
        have := g1 j r (by simpa using hj) a ha
        omega
    · cases j' with
      | zero => omega
      | succ j' =>
        cases j with
        | zero =>
          simp at hj; subst hj
          have := List.all_eq_true.1 h2 r' (List.mem_of_getElem? (by simpa using hj'))
          simp only [Bool.or_eq_true] at this
          exact this.imp (fun h => by simpa using has_iff.1 h) id
        | succ j =>
          have := g2 j j' r r' (by omega) (by simpa using hj) (by simpa using hj')
          exact this.imp (fun h => by rw [show i + (j + 1) = i + 1 + j by omega]; exact h) id

theorem disj_spec {a b : List Nat} (h : disj a b = true) {x : Nat} (ha : x ∈ a) (hb : x ∈ b) : False := by
  have := List.all_eq_true.1 h x ha
  rw [has_iff.2 hb] at this
  cases this

theorem apart_spec {x y : Rec} (h : apartR x y = true) : (∀ d, x.dst = some d → d ∉ y.looks) ∧ (∀ d, y.dst = some d → d ∉ x.looks) ∧ (∀ d, x.dst = some d → y.dst ≠ some d) ∧ (∀ k ∈ x.fp, k ∉ y.wr) ∧ (∀ k ∈ x.wr, k ∉ y.fp) ∧ ∀ k ∈ x.wr, k ∉ y.wr := by
  simp only [apartR, Bool.and_eq_true] at h
  obtain ⟨⟨⟨⟨⟨h1, h2⟩, h3⟩, h4⟩, h5⟩, h6⟩ := h
  exact ⟨fun d hd hl => disj_spec h1 (by simp [hd]) hl, fun d hd hl => disj_spec h2 (by simp [hd]) hl, fun d hd hd' => disj_spec h3 (x := d) (by simp [hd]) (by simp [hd']), fun k hk hk' => disj_spec h4 hk hk', fun k hk hk' => disj_spec h5 hk hk', fun k hk hk' => disj_spec h6 hk hk'⟩
end
end Go.Ab

/- The abstract machine: operations in any order come to the same. -/
namespace Go.Ab
section
variable {P : Program}

theorem Good.congr {E : Env} {h h2 : Heap} {nx : Nat} {w : World} (e : ∀ k, hget h k = hget h2 k) (g : Good E h nx w) : Good E h2 nx w :=
  ⟨fun k => by rw [← e]; exact g.holds k, fun k k' b hl hl' => g.inj k k' b (by rw [e]; exact hl) (by rw [e]; exact hl'), fun k b hl => g.imm k b (by rw [e]; exact hl), g.mem, g.fresh⟩

theorem Framed.congr {F : Fr} {E : Env} {h h2 : Heap} {w : World} (e : ∀ k, hget h k = hget h2 k) (f : Framed F E h w) : Framed F E h2 w :=
  ⟨f.size, f.old, fun k b hl => f.own k b (by rw [e]; exact hl), f.memNew, f.os, f.tape, f.output⟩

/-- What is recorded of a region. -/
structure Log (P : Program) (ops : Array Oper) where
  n : Nat
  recs : List Rec
  f : Nat → St
  vs : Nat → AV
  hs : Nat → Heap
  rn : Nat → Bool
  size : n = ops.size
  len : recs.length = n
  chk : checkFrom 0 recs = true
  step : ∀ i o, ops[i]? = some o → ∃ rec, recs[i]? = some rec ∧ StepD P ops o (recs.take i) rec (f i) (f (i + 1)) (vs i) (hs i) (rn i)

def Log.R {ops : Array Oper} (L : Log P ops) (i : Nat) : Rec := L.recs.getD i default

/-- What the frame holds, and the memory, behind the operations of a set. -/
def Log.tF {ops : Array Oper} (L : Log P ops) (S : Nat → Bool) : Nat → List AV
  | 0 => (L.f 0).tmps
  | m + 1 => if S m then putA (L.tF S m) (L.R m).dst (L.vs m) else L.tF S m
def Log.hF {ops : Array Oper} (L : Log P ops) (S : Nat → Bool) : Nat → Heap
  | 0 => (L.f 0).heap
  | m + 1 => if S m then merge (L.hF S m) (L.R m).wr (L.hs m) else L.hF S m

section log
variable {ops : Array Oper} (L : Log P ops)

theorem Log.stepR {i : Nat} (hi : i < L.n) : ∃ o, ops[i]? = some o ∧ StepD P ops o (L.recs.take i) (L.R i) (L.f i) (L.f (i + 1)) (L.vs i) (L.hs i) (L.rn i) := by
  have hi' : i < ops.size := by rw [← L.size]; exact hi
  have ho : ops[i]? = some ops[i] := Array.getElem?_eq_getElem hi'
  obtain ⟨rec, h1, h2⟩ := L.step i _ ho
  refine ⟨_, ho, ?_⟩
  have : L.R i = rec := by simp [Log.R, List.getD_eq_getElem?_getD, h1]
  rw [this]; exact h2

theorem Log.recR {i : Nat} (hi : i < L.n) : L.recs[i]? = some (L.R i) := by
  have := List.getElem?_eq_getElem (show i < L.recs.length by rw [L.len]; exact hi)
  simp [Log.R, List.getD_eq_getElem?_getD, this]

theorem Log.mono {i j : Nat} (h : i ≤ j) (hj : j ≤ L.n) : (L.f i).next ≤ (L.f j).next := by
  induction j with
  | zero => have : i = 0 := by omega
            subst this; exact Nat.le_refl _
  | succ j ih =>
    by_cases e : i = j + 1
    · subst e; exact Nat.le_refl _
    · obtain ⟨o, _, st⟩ := L.stepR (i := j) (by omega)
      exact Nat.le_trans (ih (by omega) (by omega)) st.next

theorem Log.tF_len (S : Nat → Bool) (m : Nat) : (L.tF S m).length = (L.f 0).tmps.length := by
  induction m with
  | zero => rfl
  | succ m ih =>
    simp only [Log.tF]
    split
    · rw [length_putA]; exact ih
    · exact ih

theorem Log.tF_congr {S S' : Nat → Bool} (d : Nat) : ∀ m, (∀ j, j < m → (L.R j).dst = some d → S j = S' j) → lget (.tup []) (L.tF S m) d = lget (.tup []) (L.tF S' m) d
  | 0, _ => rfl
  | m + 1, h => by
    have ih := Log.tF_congr d m fun j hj => h j (by omega)
    simp only [Log.tF]
    by_cases e : (L.R m).dst = some d
    · rw [h m (by omega) e]
      split
      · simp only [lget_putA, L.tF_len, ih]
      · exact ih
    · have : ∀ b : Bool, ∀ S, lget (.tup []) (if b then putA (L.tF S m) (L.R m).dst (L.vs m) else L.tF S m) d = lget (.tup []) (L.tF S m) d := fun b S => by
        split
        · rw [lget_putA, if_neg (by simp [e])]
        · rfl
      rw [this, this]; exact ih

theorem Log.hF_congr {S S' : Nat → Bool} (k : Nat) : ∀ m, (∀ j, j < m → k ∈ (L.R j).wr → S j = S' j) → hget (L.hF S m) k = hget (L.hF S' m) k
  | 0, _ => rfl
  | m + 1, h => by
    have ih := Log.hF_congr k m fun j hj => h j (by omega)
    simp only [Log.hF]
    by_cases e : k ∈ (L.R m).wr
    · rw [h m (by omega) e]
      split
      · simp only [hget_merge, ih]
      · exact ih
    · have : ∀ b : Bool, ∀ S, hget (if b then merge (L.hF S m) (L.R m).wr (L.hs m) else L.hF S m) k = hget (L.hF S m) k := fun b S => by
        split
        · rw [hget_merge, if_neg e]
        · rfl
      rw [this, this]; exact ih

theorem Log.tF_upto (i : Nat) : ∀ m, m ≤ L.n → (m ≤ i → L.tF (fun j => decide (j < i)) m = (L.f m).tmps) ∧ (i ≤ m → L.tF (fun j => decide (j < i)) m = L.tF (fun j => decide (j < i)) i)
  | 0, _ => ⟨fun _ => rfl, fun h => by
    have : i = 0 := by omega
    subst this; rfl⟩
  | m + 1, hm => by
    obtain ⟨h1, h2⟩ := Log.tF_upto i m (by omega)
    refine ⟨fun h => ?_, fun h => ?_⟩
    · simp only [Log.tF, decide_eq_true_eq, show m < i by omega, if_true, h1 (by omega)]
      obtain ⟨o, _, st⟩ := L.stepR (i := m) (by omega)
      rw [st.tmps, st.dst]
    · by_cases e : i = m + 1
      · subst e; rfl
      · simp only [Log.tF, decide_eq_true_eq, show ¬ m < i by omega, if_false]
        exact h2 (by omega)

theorem Log.hF_upto (i : Nat) : ∀ m, m ≤ L.n → (m ≤ i → L.hF (fun j => decide (j < i)) m = (L.f m).heap) ∧ (i ≤ m → L.hF (fun j => decide (j < i)) m = L.hF (fun j => decide (j < i)) i)
  | 0, _ => ⟨fun _ => rfl, fun h => by
    have : i = 0 := by omega
    subst this; rfl⟩
  | m + 1, hm => by
    obtain ⟨h1, h2⟩ := Log.hF_upto i m (by omega)
    refine ⟨fun h => ?_, fun h => ?_⟩
    · simp only [Log.hF, decide_eq_true_eq, show m < i by omega, if_true, h1 (by omega)]
      obtain ⟨o, _, st⟩ := L.stepR (i := m) (by omega)
      rw [st.heap]
    · by_cases e : i = m + 1
      · subst e; rfl
      · simp only [Log.hF, decide_eq_true_eq, show ¬ m < i by omega, if_false]
        exact h2 (by omega)

theorem Log.tF_at {i : Nat} (hi : i ≤ L.n) : L.tF (fun j => decide (j < i)) L.n = (L.f i).tmps := by
  rw [(L.tF_upto i L.n (Nat.le_refl _)).2 hi, (L.tF_upto i i hi).1 (Nat.le_refl _)]
theorem Log.hF_at {i : Nat} (hi : i ≤ L.n) : L.hF (fun j => decide (j < i)) L.n = (L.f i).heap := by
  rw [(L.hF_upto i L.n (Nat.le_refl _)).2 hi, (L.hF_upto i i hi).1 (Nat.le_refl _)]

/-- One more operation. -/
theorem Log.tF_insert {S S' : Nat → Bool} {i : Nat} (hS : S i = false) (hS' : ∀ j, S' j = (S j || decide (j = i))) (hap : ∀ j, i < j → j < L.n → S j = true → ∀ d, (L.R i).dst = some d → (L.R j).dst ≠ some d) (d : Nat) :
    ∀ m, m ≤ L.n → lget (.tup []) (L.tF S' m) d = if i < m ∧ (L.R i).dst = some d ∧ d < (L.f 0).tmps.length then L.vs i else lget (.tup []) (L.tF S m) d
  | 0, _ => by simp [Log.tF]
  | m + 1, hm => by
    have ih := Log.tF_insert hS hS' hap d m (by omega)
    simp only [Log.tF]
    by_cases e : m = i
    · subst e
      rw [hS' m, hS]
      have : ¬ m < m := Nat.lt_irrefl m
      simp only [this, false_and, if_false] at ih
      simp only [decide_true, Bool.or_true, if_true, lget_putA, L.tF_len, ih, Nat.lt_succ_self, true_and, Bool.false_eq_true, if_false]
    · have hs : S' m = S m := by rw [hS']; simp [e]
      rw [hs]
      by_cases hm' : S m = true
      · simp only [hm', if_true, lget_putA, L.tF_len, ih]
        by_cases c1 : (L.R m).dst = some d ∧ d < (L.f 0).tmps.length
        · rw [if_pos c1]
          by_cases c2 : i < m + 1 ∧ (L.R i).dst = some d ∧ d < (L.f 0).tmps.length
          · exact absurd c1.1 (hap m (by omega) (by omega) hm' d c2.2.1)
          · rw [if_neg c2, if_pos c1]
        · rw [if_neg c1, if_neg c1]
          have : (i < m ∧ (L.R i).dst = some d ∧ d < (L.f 0).tmps.length) ↔ (i < m + 1 ∧ (L.R i).dst = some d ∧ d < (L.f 0).tmps.length) := by
            constructor <;> rintro ⟨a, b⟩ <;> exact ⟨by omega, b⟩
          simp only [this]
      · simp only [hm', Bool.false_eq_true, if_false, ih]
        have : (i < m ∧ (L.R i).dst = some d ∧ d < (L.f 0).tmps.length) ↔ (i < m + 1 ∧ (L.R i).dst = some d ∧ d < (L.f 0).tmps.length) := by
          constructor <;> rintro ⟨a, b⟩ <;> exact ⟨by omega, b⟩
        simp only [this]

theorem Log.hF_insert {S S' : Nat → Bool} {i : Nat} (hS : S i = false) (hS' : ∀ j, S' j = (S j || decide (j = i))) (hap : ∀ j, i < j → j < L.n → S j = true → ∀ k ∈ (L.R i).wr, k ∉ (L.R j).wr) (k : Nat) :
    ∀ m, m ≤ L.n → hget (L.hF S' m) k = if i < m ∧ k ∈ (L.R i).wr then hget (L.hs i) k else hget (L.hF S m) k
  | 0, _ => by simp [Log.hF]
  | m + 1, hm => by
    have ih := Log.hF_insert hS hS' hap k m (by omega)
    simp only [Log.hF]
    by_cases e : m = i
    · subst e
      rw [hS' m, hS]
      have : ¬ m < m := Nat.lt_irrefl m
      simp only [this, false_and, if_false] at ih
      simp only [decide_true, Bool.or_true, if_true, hget_merge, ih, Nat.lt_succ_self, true_and, Bool.false_eq_true, if_false]
    · have hs : S' m = S m := by rw [hS']; simp [e]
      rw [hs]
      by_cases hm' : S m = true
      · simp only [hm', if_true, hget_merge, ih]
        by_cases c1 : k ∈ (L.R m).wr
        · rw [if_pos c1]
          by_cases c2 : i < m + 1 ∧ k ∈ (L.R i).wr
          · exact absurd c1 (hap m (by omega) (by omega) hm' k c2.2)
          · rw [if_neg c2, if_pos c1]
        · rw [if_neg c1, if_neg c1]
          have : (i < m ∧ k ∈ (L.R i).wr) ↔ (i < m + 1 ∧ k ∈ (L.R i).wr) := by
            constructor <;> rintro ⟨a, b⟩ <;> exact ⟨by omega, b⟩
          simp only [this]
      · simp only [hm', Bool.false_eq_true, if_false, ih]
        have : (i < m ∧ k ∈ (L.R i).wr) ↔ (i < m + 1 ∧ k ∈ (L.R i).wr) := by
          constructor <;> rintro ⟨a, b⟩ <;> exact ⟨by omega, b⟩
        simp only [this]
end log
end
end Go.Ab

/- The abstract machine: a region whose operations come in any order. -/
namespace Go.Ab
section
variable {P : Program} {ops : Array Oper} (L : Log P ops)

/-- Behind the operations of a set: all is as it is said. -/
structure Inv (E0 : Env) (F : Fr) (S : Nat → Bool) (E : Env) (a : Act) (w : World) : Prop where
  le : E0.le E
  defers : a.defers = []
  size : a.tmps.size = (L.f 0).tmps.length
  good : Good E (L.hF S L.n) (L.f L.n).next w
  framed : Framed F E (L.hF S L.n) w
  tmps : ∀ m, m ≤ L.n → ∀ d, (∀ j, j < L.n → S j = true → (L.R j).dst = some d → j < m) → VRel (E.below (L.f m).next) (lget (.tup []) (L.tF S L.n) d) (a.tmps.getD d undef)
  objs : ∀ m, m ≤ L.n → ∀ k, (∀ j, j < L.n → S j = true → k ∈ (L.R j).wr → j < m) → Holds (E.below (L.f m).next) w k (hget (L.hF S L.n) k)
  free : ∀ i, i < L.n → S i = false → ∀ k, (L.f i).next ≤ k → k < (L.f (i + 1)).next → E.blk k = none
  down : ∀ i, i < L.n → S i = true → ∀ j ∈ (L.R i).anc, S j = true

/-- What is apart from an operation, of those that are done. -/
theorem Log.rel {i : Nat} (hi : i < L.n) {S : Nat → Bool} (hS : S i = false) (hanc : ∀ j ∈ (L.R i).anc, S j = true) (hd : ∀ i, i < L.n → S i = true → ∀ j ∈ (L.R i).anc, S j = true) {j : Nat} (hj : j < L.n) :
    (S j = true ↔ j < i) ∨ ((∀ d, (L.R j).dst = some d → d ∉ (L.R i).looks) ∧ (∀ d, (L.R i).dst = some d → (L.R j).dst ≠ some d) ∧ (∀ k ∈ (L.R i).fp, k ∉ (L.R j).wr) ∧ (∀ k ∈ (L.R i).wr, k ∉ (L.R j).wr)) := by
  obtain ⟨c1, c2⟩ := check_spec L.recs 0 L.chk
  rcases Nat.lt_trichotomy j i with h | h | h
  · rcases c2 j i _ _ h (L.recR hj) (L.recR hi) with h1 | h1
    · rw [Nat.zero_add] at h1
      exact .inl ⟨fun _ => h, fun _ => hanc j h1⟩
    · obtain ⟨a1, a2, a3, a4, a5, a6⟩ := apart_spec h1
      exact .inr ⟨a1, fun d hd' hd'' => a3 d hd'' hd', fun k hk hk' => a5 k hk' hk, fun k hk hk' => a6 k hk' hk⟩
  · subst h
    exact .inl ⟨fun h => (by rw [hS] at h; cases h), fun h => absurd h (Nat.lt_irrefl _)⟩
  · rcases c2 i j _ _ h (L.recR hi) (L.recR hj) with h1 | h1
    · rw [Nat.zero_add] at h1
      exact .inl ⟨fun h' => (by rw [hd j hj h' i h1] at hS; cases hS), fun h' => by omega⟩
    · obtain ⟨a1, a2, a3, a4, a5, a6⟩ := apart_spec h1
      exact .inr ⟨a2, a3, a4, a6⟩

theorem restr_congr {h h2 : Heap} (ks : List Nat) (e : ∀ k ∈ ks, hget h k = hget h2 k) : restr h ks = restr h2 ks := by
  unfold restr
  exact List.map_congr_left fun k hk => by rw [e k hk]

theorem looks_op {o : Oper} {x : Operand} {d : Nat} (hx : x ∈ o.op.operands) (e : x = .tmp d) : d ∈ o.looksAt ops := by
  subst e
  exact List.mem_append_left _ (List.mem_filterMap.2 ⟨.tmp d, by simpa using hx, rfl⟩)

theorem looks_guard {o : Oper} {j : Nat} {w : Bool} {d : Nat} (hg : o.guard = some (j, w)) (hd : (ops[j]?).bind (·.dst) = some d) : d ∈ o.looksAt ops := by
  refine List.mem_append_right _ ?_
  rw [hg]; simp only [hd]; simp

theorem Inv.step {E0 : Env} {F : Fr} {S S' : Nat → Bool} {E : Env} {a : Act} {w : World} (v : Inv L E0 F S E a w) (h0 : E0.lo ≤ (L.f 0).next) {i : Nat} (hi : i < L.n) (hS : S i = false) (hS' : ∀ j, S' j = (S j || decide (j = i))) (hanc : ∀ j ∈ (L.R i).anc, S j = true)
    {o : Oper} (ho : ops[i]? = some o) {Q : Exit → Act → World → Prop} {K : Act → World → Prop} (hK : ∀ E a w, Inv L E0 F S' E a w → K a w) : wpOp P ops Q i K a w := by
  obtain ⟨o', ho', st⟩ := L.stepR hi
  rw [ho] at ho'; cases ho'
  have hrel := fun {j : Nat} (hj : j < L.n) => L.rel hi hS hanc v.down hj
  -- the temporaries that it looks at
  have look : ∀ d, d ∈ o.looksAt ops → VRel (E.below (L.f i).next) (lget (.tup []) (L.f i).tmps d) (a.tmps.getD d undef) := by
    intro d hd
    have hcond : ∀ j, j < L.n → (L.R j).dst = some d → (S j = true ↔ j < i) := fun j hj hjd => (hrel hj).resolve_right fun h => h.1 d hjd (by rw [st.looks]; exact hd)
    have h1 := v.tmps i (by omega) d fun j hj hs hjd => (hcond j hj hjd).1 hs
    rw [L.tF_congr (S' := fun j => decide (j < i)) d L.n (fun j hj hjd => by
      have := hcond j hj hjd
      cases hsj : S j <;> simp_all), L.tF_at (by omega)] at h1
    exact h1
  -- what it is shown
  have fpc : ∀ k ∈ (L.R i).fp, ∀ j, j < L.n → k ∈ (L.R j).wr → (S j = true ↔ j < i) := fun k hk j hj hw => (hrel hj).resolve_right fun h => h.2.2.1 k hk hw
  have shown : restr (L.f i).heap (L.R i).fp = restr (L.hF S L.n) (L.R i).fp := by
    refine restr_congr _ fun k hk => ?_
    rw [← L.hF_at (i := i) (by omega)]
    refine L.hF_congr k L.n fun j hj hw => ?_
    have := fpc k hk j hj hw
    cases hsj : S j <;> simp_all
  have hvis : ∀ k ∈ (L.R i).fp, Holds (E.below (L.f i).next) w k (hget (L.hF S L.n) k) := fun k hk => v.objs i (by omega) k fun j hj hs hw => (fpc k hk j hj hw).1 hs
  have tins := fun d => L.tF_insert hS hS' (fun j h1 h2 h3 d hd => by
    rcases hrel h2 with h | h
    · have := h.1 h3; omega
    · exact h.2.1 d hd) d L.n (Nat.le_refl _)
  have hins := fun k => L.hF_insert hS hS' (fun j h1 h2 h3 k hk => by
    rcases hrel h2 with h | h
    · have := h.1 h3; omega
    · exact h.2.2.2 k hk) k L.n (Nat.le_refl _)
  have hdown : ∀ i, i < L.n → S' i = true → ∀ j ∈ (L.R i).anc, S' j = true := by
    intro m hm hs j hj
    rw [hS'] at hs ⊢
    by_cases e : m = i
    · subst e; rw [hanc j hj]; rfl
    · simp only [e, decide_false, Bool.or_false] at hs
      rw [v.down m hm hs j hj]; rfl
  have hsub : ∀ j, S j = true → S' j = true := fun j h => by rw [hS', h]; rfl
  unfold wpOp
  simp only [ho]
  have hw : Region.wanted o (yielded ops a.tmps) = L.rn i := guardIs_ok (fun j w d hg hd => look d (looks_guard hg hd)) st.guard
  cases hrn : L.rn i with
  | true =>
    rw [hrn] at hw
    rw [if_pos hw]
    obtain ⟨wb, hop, hwr⟩ := st.yes hrn
    rw [shown] at hop
    obtain ⟨gv, fv⟩ := vis_good v.good hvis
    refine .inl (hop.2 _ _ w a (fun x hx => evA_ok x fun d hd => look d (looks_op hx hd)) gv fv _ _ fun u w' hb => ?_)
    obtain ⟨E1, b1, b2, b3, b4, b5⟩ := hb
    have hfresh := v.free i hi hS
    have hN := L.mono (i := i + 1) (j := L.n) (by omega) (Nat.le_refl _)
    obtain ⟨j1, j2, j3⟩ := join_facts hfresh b1 b3
    obtain ⟨g2, f2, hun⟩ := frame_step v.good v.framed hN hfresh b1 b3 b4 (hwr.imp id fun h => ⟨b5.resolve_left (by rw [h.1]; simp), h.2⟩)
    have hget' : ∀ k, hget (merge (L.hF S L.n) (L.R i).wr (L.hs i)) k = hget (L.hF S' L.n) k := fun k => by
      rw [hins k, hget_merge]; simp only [hi, true_and]
    have hjoin : ∀ k, (k < (L.f i).next ∨ (L.f (i + 1)).next ≤ k) → (E.join E1 (L.f i).next (L.f (i + 1)).next).blk k = E.blk k := fun k hk => by
      have : ¬ ((L.f i).next ≤ k ∧ k < (L.f (i + 1)).next) := by omega
      simp only [Env.join, this, if_false]
    refine hK (E.join E1 (L.f i).next (L.f (i + 1)).next) _ _ ⟨?_, ?_, ?_, g2.congr hget', f2.congr hget', ?_, ?_, ?_, hdown⟩
    · refine ⟨(Env.sub_trans v.le.sub j1).blk, (Env.sub_trans v.le.sub j1).mem, v.le.lo, fun k b hb => ?_⟩
      by_cases hk : (L.f i).next ≤ k ∧ k < (L.f (i + 1)).next
      · exact .inr (Nat.le_trans h0 (Nat.le_trans (L.mono (Nat.zero_le i) (by omega)) hk.1))
      · rw [hjoin k (by omega)] at hb
        exact v.le.new k b hb
    · rw [defers_put]; exact v.defers
    · rw [size_put]; exact v.size
    · intro m hm d hd
      rw [tins d, getD_put, v.size, ← st.dst]
      by_cases c : (L.R i).dst = some d ∧ d < (L.f 0).tmps.length
      · rw [if_pos ⟨hi, c⟩, if_pos c]
        have him : i < m := hd i hi (by rw [hS']; simp) c.1
        exact b2.sub (Env.sub_trans j2 (Env.below_below _ (L.mono (by omega) hm)))
      · rw [if_neg (fun h => c h.2), if_neg c]
        exact (v.tmps m hm d fun j hj hs hjd => hd j hj (hsub j hs) hjd).sub (j3 _)
    · intro m hm k hk
      rw [hins k]
      by_cases c : k ∈ (L.R i).wr
      · rw [if_pos ⟨hi, c⟩]
        have him : i < m := hk i hi (by rw [hS']; simp) c
        exact (b3.holds k).sub (Env.sub_trans j2 (Env.below_below _ (L.mono (by omega) hm))) fun _ _ => rfl
      · rw [if_neg (fun h => c h.2)]
        have := v.objs m hm k fun j hj hs hjd => hk j hj (hsub j hs) hjd
        cases hq : hget (L.hF S L.n) k with
        | none => trivial
        | _ =>
          rw [← hq]
          exact this.sub (j3 _) fun b hb => hun k c b (by rw [hq]; trivial) (Env.below_blk hb).2
    · intro m hm hs k h1 h2
      have hne : m ≠ i := fun e => by rw [hS', e] at hs; simp at hs
      have hsm : S m = false := by
        rw [hS'] at hs
        cases hq : S m with
        | false => rfl
        | true => rw [hq] at hs; cases hs
      rw [hjoin k (by
        rcases Nat.lt_or_gt_of_ne hne with h | h
        · have := L.mono (i := m + 1) (j := i) (by omega) (by omega); omega
        · have := L.mono (i := i + 1) (j := m) (by omega) (by omega); omega)]
      exact v.free m hm hsm k h1 h2
  | false =>
    rw [hrn] at hw
    rw [if_neg (by rw [hw]; simp)]
    obtain ⟨n1, n2, n3, n4⟩ := st.no hrn
    have hget' : ∀ k, hget (L.hF S L.n) k = hget (L.hF S' L.n) k := fun k => by
      rw [hins k, n2]; simp
    refine hK E _ _ ⟨v.le, by rw [defers_put]; exact v.defers, by rw [size_put]; exact v.size, v.good.congr hget', v.framed.congr hget', ?_, ?_, ?_, hdown⟩
    · intro m hm d hd
      rw [tins d, getD_put, v.size, ← st.dst]
      by_cases c : (L.R i).dst = some d ∧ d < (L.f 0).tmps.length
      · rw [if_pos ⟨hi, c⟩, if_pos c, n1]; exact undef_ok _
      · rw [if_neg (fun h => c h.2), if_neg c]
        exact v.tmps m hm d fun j hj hs hjd => hd j hj (hsub j hs) hjd
    · intro m hm k hk
      rw [← hget' k]
      exact v.objs m hm k fun j hj hs hjd => hk j hj (hsub j hs) hjd
    · intro m hm hs k h1 h2
      have hsm : S m = false := by
        rw [hS'] at hs
        cases hq : S m with
        | false => rfl
        | true => rw [hq] at hs; cases hs
      exact v.free m hm hsm k h1 h2
/-! ### Every order -/

def cnt (S : Nat → Bool) : Nat → Nat
  | 0 => 0
  | m + 1 => cnt S m + (if S m then 0 else 1)

theorem cnt_insert {S S' : Nat → Bool} {i : Nat} (hS : S i = false) (hS' : ∀ j, S' j = (S j || decide (j = i))) : ∀ m, cnt S' m + (if i < m then 1 else 0) = cnt S m
  | 0 => by simp [cnt]
  | m + 1 => by
    have ih := cnt_insert hS hS' m
    simp only [cnt]
    by_cases e : m = i
    · subst e
      simp only [Nat.lt_irrefl, if_false, Nat.add_zero] at ih
      rw [hS' m, hS]
      simp [ih]
    · rw [hS' m]
      simp only [e, decide_false, Bool.or_false]
      by_cases h : i < m
      · have e1 : (if i < m + 1 then 1 else 0) = 1 := if_pos (by omega)
        have e2 : (if i < m then 1 else 0) = 1 := if_pos h
        omega
      · have e1 : (if i < m + 1 then 1 else 0) = 0 := if_neg (by omega)
        have e2 : (if i < m then 1 else 0) = 0 := if_neg h
        omega

theorem cnt_zero {S : Nat → Bool} : ∀ m, cnt S m = 0 → ∀ j, j < m → S j = true
  | 0, _, j, hj => by omega
  | m + 1, h, j, hj => by
    simp only [cnt] at h
    by_cases e : j = m
    · subst e
      cases hq : S j with
      | true => rfl
      | false => rw [hq] at h; simp at h
    · exact cnt_zero m (by omega) j (by omega)

def ofListed (listed : Array Bool) : Nat → Bool := fun j => listed.getD j false

theorem ready_anc {listed : Array Bool} {E0 : Env} {F : Fr} {E : Env} {a : Act} {w : World} (v : Inv L E0 F (ofListed listed) E a w) {i : Nat} (hi : i < L.n) {o : Oper} (ho : ops[i]? = some o) (hr : ∀ e ∈ o.after, Region.binds .any e = true → listed.getD e.on false = true) :
    ∀ j ∈ (L.R i).anc, ofListed listed j = true := by
  obtain ⟨o', ho', st⟩ := L.stepR hi
  rw [ho] at ho'; cases ho'
  intro j hj
  rw [st.anc] at hj
  simp only [ancOf, List.mem_flatMap] at hj
  obtain ⟨e, he, hj⟩ := hj
  cases hb : Region.binds .any e with
  | false => rw [hb] at hj; simp at hj
  | true =>
    rw [hb] at hj
    have hl := hr e (by simpa using he) hb
    simp only [cond_true, List.mem_cons] at hj
    rcases hj with rfl | hj
    · exact hl
    · rw [lget_eq] at hj
      by_cases hei : e.on < i
      · have : (L.recs.take i).getD e.on default = L.R e.on := by
          simp only [Log.R, List.getD_eq_getElem?_getD, List.getElem?_take, hei, if_true]
        rw [this] at hj
        exact v.down e.on (by omega) hl j hj
      · have : (L.recs.take i).getD e.on default = default := by
          simp only [List.getD_eq_getElem?_getD, List.getElem?_take, hei, if_false, Option.getD_none]
        rw [this] at hj
        cases hj

theorem anc_edge {i : Nat} (hi : i < L.n) {o : Oper} (ho : ops[i]? = some o) {e : Edge} (he : e ∈ o.after) (hb : Region.binds .any e = true) : e.on < i := by
  obtain ⟨o', ho', st⟩ := L.stepR hi
  rw [ho] at ho'; cases ho'
  have : e.on ∈ (L.R i).anc := by
    rw [st.anc]
    simp only [ancOf, List.mem_flatMap]
    exact ⟨e, by simpa using he, by rw [hb]; simp⟩
  have := (check_spec L.recs 0 L.chk).1 i _ (L.recR hi) _ this
  omega

theorem wpAny_ok {E0 : Env} {F : Fr} (h0 : E0.lo ≤ (L.f 0).next) {Q : Exit → Act → World → Prop} (hQ : ∀ E a w, E0.le E → Rep E F (L.f L.n) a w → Q .normal a w) :
    ∀ (fuel : Nat) (listed : Array Bool) (E : Env) (a : Act) (w : World), listed.size = L.n → cnt (ofListed listed) L.n ≤ fuel → Inv L E0 F (ofListed listed) E a w → wpAny P .any ops Q fuel listed a w := by
  -- when all is done
  have fin : ∀ (listed : Array Bool) (E : Env) (a : Act) (w : World), (∀ j, j < L.n → ofListed listed j = true) → Inv L E0 F (ofListed listed) E a w → Q .normal a w := by
    intro listed E a w hall v
    have ht : ∀ d, lget (.tup []) (L.tF (ofListed listed) L.n) d = lget (.tup []) (L.f L.n).tmps d := fun d => by
      rw [← L.tF_at (Nat.le_refl L.n)]
      exact L.tF_congr d L.n fun j hj _ => by rw [hall j hj]; simp [hj]
    have hh : ∀ k, hget (L.hF (ofListed listed) L.n) k = hget (L.f L.n).heap k := fun k => by
      rw [← L.hF_at (Nat.le_refl L.n)]
      exact L.hF_congr k L.n fun j hj _ => by rw [hall j hj]; simp [hj]
    have hlen : (L.f L.n).tmps.length = (L.f 0).tmps.length := by rw [← L.tF_at (Nat.le_refl L.n)]; exact L.tF_len _ _
    refine hQ E a w v.le ⟨⟨by rw [v.size, hlen], fun d => ?_⟩, v.good.congr hh, v.framed.congr hh, v.defers⟩
    rw [← ht d]
    exact (v.tmps L.n (Nat.le_refl _) d fun j hj _ _ => hj).sub (Env.below_sub _ _)
  have stuck : ∀ (listed : Array Bool), listed.size = L.n → Region.ready .any ops listed = [] → ∀ j, j < L.n → ofListed listed j = true := by
    intro listed hsz hr j
    induction j using Nat.strongRecOn with
    | _ j ih =>
      intro hj
      cases hq : ofListed listed j with
      | true => rfl
      | false =>
        obtain ⟨o, ho, _⟩ := L.stepR hj
        have hm : j ∈ Region.ready .any ops listed := by
          rw [mem_ready]
          refine ⟨?_, o, ho, fun e he hb => ?_⟩
          · have : listed[j]? = some listed[j] := Array.getElem?_eq_getElem (by omega)
            simp only [ofListed, Array.getD_eq_getD_getElem?, this, Option.getD_some] at hq ⊢
            exact hq
          · have hlt := anc_edge L hj ho he hb
            exact ih e.on hlt (by omega)
        rw [hr] at hm; cases hm
  intro fuel
  induction fuel with
  | zero =>
    intro listed E a w hsz hc v
    have hall := cnt_zero L.n (Nat.le_zero.1 hc)
    refine ⟨?_, fin listed E a w hall v⟩
    rw [List.eq_nil_iff_forall_not_mem]
    intro j hj
    obtain ⟨h1, o, ho, _⟩ := mem_ready.1 hj
    have hjn : j < L.n := by
      rw [L.size]; exact (Array.getElem?_eq_some_iff.1 ho).1
    have h2 := hall j hjn
    have : listed[j]? = some listed[j] := Array.getElem?_eq_getElem (by omega)
    simp only [ofListed, Array.getD_eq_getD_getElem?, this, Option.getD_some] at h1 h2
    rw [h1] at h2; cases h2
  | succ fuel ih =>
    intro listed E a w hsz hc v
    refine ⟨fun hr => fin listed E a w (stuck listed hsz hr) v, fun i hi => ?_⟩
    obtain ⟨h1, o, ho, h2⟩ := mem_ready.1 hi
    have hin : i < L.n := by rw [L.size]; exact (Array.getElem?_eq_some_iff.1 ho).1
    have hli : listed[i]? = some listed[i] := Array.getElem?_eq_getElem (by omega)
    have hS : ofListed listed i = false := by
      simp only [ofListed, Array.getD_eq_getD_getElem?, hli, Option.getD_some] at h1 ⊢
      exact h1
    have hS' : ∀ j, ofListed (listed.setIfInBounds i true) j = (ofListed listed j || decide (j = i)) := by
      intro j
      by_cases e : j = i
      · subst e
        simp [ofListed, show j < listed.size by omega]
      · simp only [ofListed, e, decide_false, Bool.or_false]
        exact getD_set_ne false (Ne.symm e)
    have hcn := cnt_insert hS hS' L.n
    rw [if_pos hin] at hcn
    exact v.step L h0 hin hS hS' (ready_anc L v hin ho h2) ho fun E' a' w' v' => ih _ E' a' w' (by simpa using hsz) (by omega) v'

theorem Inv.start {E0 E : Env} {F : Fr} {a : Act} {w : World} (hE : E0.le E) (r : Rep E F (L.f 0) a w) : Inv L E0 F (fun _ => false) E a w := by
  have ht : L.tF (fun _ => false) L.n = (L.f 0).tmps := by
    generalize L.n = m
    induction m with
    | zero => rfl
    | succ m ih => simpa [Log.tF] using ih
  have hh : L.hF (fun _ => false) L.n = (L.f 0).heap := by
    generalize L.n = m
    induction m with
    | zero => rfl
    | succ m ih => simpa [Log.hF] using ih
  have hsub : ∀ m, m ≤ L.n → E.sub (E.below (L.f m).next) := fun m hm => by
    refine ⟨fun k b hb => ?_, fun b m h => h⟩
    have hk : k < (L.f m).next := by
      rcases Nat.lt_or_ge k (L.f m).next with h | h
      · exact h
      · have := L.mono (Nat.zero_le m) hm
        rw [(r.good.fresh k (by omega)).1] at hb; cases hb
    simp [Env.below, hk, hb]
  refine ⟨hE, r.defers, r.tmps.size, ?_, by rw [hh]; exact r.framed, ?_, ?_, ?_, ?_⟩
  · rw [hh]; exact r.good.later (L.mono (Nat.zero_le _) (Nat.le_refl _))
  · intro m hm d _
    rw [ht]; exact (r.tmps.get d).sub (hsub m hm)
  · intro m hm k _
    rw [hh]; exact (r.good.holds k).sub (hsub m hm) fun _ _ => rfl
  · intro i hi _ k h1 _
    exact (r.good.fresh k (Nat.le_trans (L.mono (Nat.zero_le i) (by omega)) h1)).1
  · intro i _ h; cases h
end

/-- A region whose operations come in any order. -/
theorem seqD_ok {P : Program} {ro : FuncId → Bool} {callK : CallK} (ck : CallKOK P ro callK) {Φ : Post} {ops : Array Oper} {k : St → T} {E0 : Env} {F : Fr} {Q : Exit → Act → World → Prop} {s : St} {E : Env} {a : Act} {w : World}
    (hQ : ∀ E s' a w, E0.le E → s.next ≤ s'.next → Rep E F s' a w → TOk Φ (k s') → Q .normal a w) (hE : E0.le E) (r : Rep E F s a w) (H : TOk Φ (seqD P callK ro ops ops.toList [] s k)) :
    wpAny P .any ops Q ops.size (Array.replicate ops.size false) a w := by
  obtain ⟨recs, s', c1, c2, c3⟩ := seqD_chain ck _ _ _ H
  obtain ⟨q1, _, f, vs, hs, rn, f0, f1, f2⟩ := c3.steps
  simp only [List.length_nil, Nat.zero_add, Array.length_toList] at q1 f1 f2
  let L : Log P ops := ⟨ops.size, recs, f, vs, hs, rn, rfl, q1, c1, fun i o ho => f2 i o (by simpa using ho)⟩
  have hrep : Rep E F (L.f 0) a w := by show Rep E F (f 0) a w; rw [f0]; exact r
  have hlo : E0.lo ≤ (L.f 0).next := by
    show E0.lo ≤ (f 0).next
    rw [f0, ← hE.lo]; exact (r.good.fresh s.next (Nat.le_refl _)).2
  have hfin : L.f L.n = s' := f1
  have hl : ofListed (Array.replicate ops.size false) = fun _ => false := by
    funext j
    simp only [ofListed, Array.getD_eq_getD_getElem?, Array.getElem?_replicate]
    split <;> rfl
  have hcn : ∀ m, cnt (fun _ => false) m = m := fun m => by
    induction m with
    | zero => rfl
    | succ m ih => simp [cnt, ih]
  refine wpAny_ok L hlo (E0 := E0) (F := F) (fun E1 a1 w1 hE1 r1 => ?_) _ _ E a w (by simp [L]) ?_ (by rw [hl]; exact Inv.start L hE hrep)
  · rw [hfin] at r1
    refine hQ E1 s' a1 w1 hE1 ?_ r1 c2
    have := L.mono (Nat.zero_le L.n) (Nat.le_refl _)
    rw [hfin] at this
    have e0 : L.f 0 = s := f0
    rw [e0] at this; exact this
  · rw [hl, hcn]; exact Nat.le_refl _
end Go.Ab

/- The abstract machine: whole functions. -/
namespace Go.Ab
section
variable {P : Program}

/-! ### What is done with an outcome -/

theorem guardB_hom (g : T → T) (hg : Strict T.fail T.fail g) (ops : Array Oper) (ts : List AV) (o : Oper) (x y : T) : g (guardB ops ts o x y) = guardB ops ts o (g x) (g y) := by
  unfold guardB
  repeat' (first | rfl | exact hg _ | (refine (hcond g _ _ _).trans ?_; congr 1) | split)

section
variable {g : T → T} (hg : Strict T.fail T.fail g) (hl : ∀ t s, g (.leaf t s) = .fail "leaf") {callK : CallK} (ck : CallKHom callK)
include hg hl ck

theorem seqA_hom (ops : Array Oper) : ∀ (l : List Oper) (s : St) (k : St → T), g (seqA P callK ops l s k) = seqA P callK ops l s (fun s => g (k s))
  | [], s, k => rfl
  | o :: l, s, k => by
    simp only [seqA, guardA_eq]
    rw [guardB_hom g hg, operA_hom hg hl ck, seqA_hom ops l]
    congr 2
    funext v h nx
    exact seqA_hom ops l _ k

theorem seqD_hom (ro : FuncId → Bool) (ops : Array Oper) : ∀ (l : List Oper) (recs : List Rec) (s : St) (k : St → T), g (seqD P callK ro ops l recs s k) = seqD P callK ro ops l recs s (fun s => g (k s))
  | [], recs, s, k => by
    simp only [seqD]
    refine (hcond g _ _ _).trans ?_
    congr 1
    exact hg _
  | o :: l, recs, s, k => by
    simp only [seqD, guardA_eq]
    rw [guardB_hom g hg, operA_hom hg hl ck, seqD_hom ro ops l]
    congr 2
    funext v h nx
    exact seqD_hom ro ops l _ _ k

end

theorem resOne_hom {g : T → T} (hg : Strict T.fail T.fail g) (ts : List AV) (h : Heap) (r : ResultVar) (k : AV → T) : g (resOne P ts h r k) = resOne P ts h r (fun v => g (k v)) := by
  unfold resOne
  repeat' (first | rfl | exact hg _ | exact loadA_hom hg _ _ _ _ | split)

theorem resList_hom {g : T → T} (hg : Strict T.fail T.fail g) (ts : List AV) (h : Heap) : ∀ (rs : List ResultVar) (k : List AV → T), g (resList P ts h rs k) = resList P ts h rs (fun v => g (k v))
  | [], k => rfl
  | r :: rs, k => by
    simp only [resList]
    rw [resOne_hom hg]
    congr 1
    funext v
    exact resList_hom hg ts h rs _

theorem retA_hom {g : T → T} (hg : Strict T.fail T.fail g) (fn : Func) (s : St) (k : AV → Heap → Nat → T) : g (retA P fn s k) = retA P fn s (fun v h n => g (k v h n)) := by
  unfold retA
  rw [resList_hom hg]
  congr 1
  funext vs
  split <;> rfl

/-- A known function is as it is said to be. -/
structure OrcOk (P : Program) (ro : Bool) (f : FuncId) (orc : Orc) : Prop where
  hom : ∀ (g : T → T), Strict T.fail T.fail g → (∀ t s, g (.leaf t s) = .fail "leaf") → ∀ as h nx k, g (orc as h nx T.fail k) = orc as h nx T.fail (fun v h n => g (k v h n))
  sound : ∀ as h nx v h' nx', orc as h nx T.fail T.done = T.done v h' nx' → nx ≤ nx' ∧ ∀ (E : Env) (F : Fr) (w : World) (vals : Array Value), ArgsRel E as vals → Good E h nx w → Framed F E h w →
    FnOk P f vals w (Behind E F nx w (!ro) v h' nx')

/-- What is known is so. -/
structure CxOk (P : Program) (cx : Cx) : Prop where
  orc : ∀ f o, cx.orc f = some o → OrcOk P (cx.ro f) f o
  ro : ∀ f, cx.ro f = true → (cx.orc f).isSome = true
  name : ∀ (f : FuncId) (fn : Func), P.funcs[f]? = some fn → (fn.name == "runtime.NumGoroutine") = false
  orders : P.follows .mixedOrders = true

theorem callA_hom {cx : Cx} (hc : CxOk P cx) {ex : Func → List Item → St → (AV → Heap → Nat → T) → T}
    (hex : ∀ (g : T → T), Strict T.fail T.fail g → (∀ t s, g (.leaf t s) = .fail "leaf") → ∀ fn todo s k, g (ex fn todo s k) = ex fn todo s (fun v h n => g (k v h n))) : CallKHom (callA P cx ex) := by
  intro g hg hl f as h nx k
  unfold callA
  split
  · next o ho => exact (hc.orc f o ho).hom g hg hl _ _ _ _
  · split
    · split
      · rw [hex g hg hl]
        congr 1
        funext v h n
        refine (hcond g _ _ _).trans ?_
        congr 1
        exact hg _
      · exact hg _
    · exact hg _

theorem exec_hom {cx : Cx} (hc : CxOk P cx) {g : T → T} (hg : Strict T.fail T.fail g) (hl : ∀ t s, g (.leaf t s) = .fail "leaf") : ∀ (n u : Nat) (fn : Func) (todo : List Item) (s : St) (kd : AV → Heap → Nat → T),
    g (exec P cx n false u fn todo s kd) = exec P cx n false u fn todo s (fun v h n => g (kd v h n))
  | 0, _, _, _, _, _ => hg _
  | n + 1, u, fn, todo, s, kd => by
    have ih := fun u fn todo s kd => exec_hom hc hg hl n u fn todo s kd
    have ck : CallKHom (callA P cx (fun fg todo s k => exec P cx n false cx.inl fg todo s k)) := callA_hom hc fun g hg hl fn todo s k => exec_hom hc hg hl n cx.inl fn todo s k
    have hhead : ∀ (b : Code) (k : List Item), g (match u with | 0 => cond false (cx.lf (.code b :: .inLoop b :: k) s) (.fail "loop") | u + 1 => exec P cx n false u fn (.code b :: .inLoop b :: k) s kd) =
        (match u with | 0 => cond false (cx.lf (.code b :: .inLoop b :: k) s) (.fail "loop") | u + 1 => exec P cx n false u fn (.code b :: .inLoop b :: k) s (fun v h n => g (kd v h n))) := by
      intro b k
      split
      · exact hg _
      · exact ih _ _ _ _ _
    simp only [exec]
    split
    · exact retA_hom hg _ _ _
    · exact ih _ _ _ _ _
    · exact ih _ _ _ _ _
    · exact hhead _ _
    · split
      · exact retA_hom hg _ _ _
      · exact ih _ _ _ _ _
      · exact ih _ _ _ _ _
      · exact ih _ _ _ _ _
      · split
        · refine (hcond g _ _ _).trans ?_
          congr 1 <;> exact ih _ _ _ _ _
        · exact hg _
      · exact ih _ _ _ _ _
      · exact ih _ _ _ _ _
      · exact hhead _ _
      · split
        · exact ih _ _ _ _ _
        · exact hg _
      · split
        · exact ih _ _ _ _ _
        · exact hg _
      · refine (okZsK_hom _ _ _ _).trans ?_
        unfold hzA
        congr 1
        · skip
          refine (hcond g _ _ _).trans ?_
          congr 1
          · rw [seqD_hom hg hl ck]
            congr 1
            funext s'
            exact ih _ _ _ _ _
          · rw [seqA_hom hg hl ck]
            congr 1
            funext s'
            exact ih _ _ _ _ _
        · exact hg _
      · exact hg _
    · exact hg _
end
end Go.Ab

/- The abstract machine: the evaluator is sound. -/
namespace Go.Ab
section
variable {P : Program}

/-- From here the function comes to its end. -/
def Runs (P : Program) (b : Frame) (a : Act) (todo : List Item) (w : World) (R : Value → World → Prop) : Prop :=
  ∀ cs, ∃ v w' fr, R v w' ∧ Steps P (lone (b.at a todo) cs w) (lone fr cs w') ∧ fr.fn = b.fn ∧ fr.leaving P w' (.returned v)

theorem Runs.step {b : Frame} {a a2 : Act} {todo todo2 : List Item} {w w2 : World} {R : Value → World → Prop} (h : ∀ cs, step P (lone (b.at a todo) cs w) = .next (lone (b.at a2 todo2) cs w2)) (r : Runs P b a2 todo2 w2 R) : Runs P b a todo w R := by
  intro cs
  obtain ⟨v, w', fr, h1, h2, h3⟩ := r cs
  exact ⟨v, w', fr, h1, .head (h cs) h2, h3⟩

theorem Runs.mono {b : Frame} {a : Act} {todo : List Item} {w : World} {R R' : Value → World → Prop} (r : Runs P b a todo w R) (h : ∀ v w', R v w' → R' v w') : Runs P b a todo w R' := by
  intro cs
  obtain ⟨v, w', fr, h1, h2, h3⟩ := r cs
  exact ⟨v, w', fr, h _ _ h1, h2, h3⟩

theorem step_inScope {b : Frame} {a : Act} {k : List Item} {cs : List Frame} {w : World} {c : Code} : step P (lone (b.at a (.inScope c :: k)) cs w) = .next (lone (b.at a k) cs w) :=
  step_lone_go (by simp [stepG, stepG.exec, Frame.at])
theorem step_scope {b : Frame} {a : Act} {k : List Item} {cs : List Frame} {w : World} {c : Code} : step P (lone (b.at a (.code (.scope c) :: k)) cs w) = .next (lone (b.at a (.code c :: .inScope c :: k)) cs w) :=
  step_lone_go (by simp [stepG, stepG.exec, Frame.at])

theorem Runs.region {b : Frame} {a : Act} {k : List Item} {w : World} {R : Value → World → Prop} {c : Code} (h : c.wp P (fun e a' w' => e = .normal ∧ Runs P b a' k w' R) a w) : Runs P b a (.code c :: k) w R := by
  intro cs
  obtain ⟨e, a', w', ⟨rfl, hr⟩, harr⟩ := h b k cs
  obtain ⟨v, w2, fr, h1, h2, h3⟩ := hr cs
  exact ⟨v, w2, fr, h1, Steps.trans harr h2, h3⟩

/-! ### Results -/

def resSem (tmps : Array Value) : ResultVar → Sem Value
  | .tmp t => pure (tmps.getD t undef)
  | .cell a t => do loadVar t (← asAddr (tmps.getD a undef))

theorem resOne_ok {E : Env} {F : Fr} {Φ : Post} {s : St} {a : Act} {w : World} (r : Rep E F s a w) (x : ResultVar) {k : AV → T} (H : TOk Φ (resOne P s.tmps s.heap x k)) :
    ∃ v u, (resSem a.tmps x).run P w = .ok u w ∧ VRel E v u ∧ TOk Φ (k v) := by
  cases x with
  | tmp t => exact ⟨_, _, rfl, r.tmps.get t, H⟩
  | cell t ty =>
    simp only [resOne] at H
    have hv := r.tmps.get t
    split at H
    · next key off he =>
      rw [he] at hv
      generalize hu : a.tmps.getD t undef = u at hv
      cases hv with | one _ _ hv =>
      cases hv with | ptr _ _ b hb =>
      obtain ⟨v, u, h1, h2, h3⟩ := load_ok (w := w) r.good hb H
      exact ⟨v, u, by simp [resSem, hu, asAddr, h1], h2, h3⟩
    · exact H.elim

theorem resList_ok {E : Env} {F : Fr} {Φ : Post} {s : St} {a : Act} {w : World} (r : Rep E F s a w) : ∀ (rs : List ResultVar) {k : List AV → T}, TOk Φ (resList P s.tmps s.heap rs k) →
    ∃ vs us, (rs.mapM (resSem a.tmps)).run P w = .ok us w ∧ List.length us = List.length vs ∧ (∀ (j : Nat) (v : AV) (u : Value), vs[j]? = some v → us[j]? = some u → VRel E v u) ∧ TOk Φ (k vs)
  | [], k, H => ⟨[], [], rfl, rfl, fun j v u h => by simp at h, H⟩
  | x :: rs, k, H => by
    simp only [resList] at H
    obtain ⟨v, u, h1, h2, h3⟩ := resOne_ok r x H
    obtain ⟨vs, us, g1, g2, g3, g4⟩ := resList_ok r rs h3
    refine ⟨v :: vs, u :: us, by simp [List.mapM_cons, h1, g1], by simp [g2], fun j v' u' hv hu => ?_, g4⟩
    cases j with
    | zero => simp at hv hu; subst hv; subst hu; exact h2
    | succ j => exact g3 j v' u' (by simpa using hv) (by simpa using hu)

theorem retA_ok {E : Env} {F : Fr} {Φ : Post} {fn : Func} {s : St} {a : Act} {w : World} (r : Rep E F s a w) {k : AV → Heap → Nat → T} (H : TOk Φ (retA P fn s k)) :
    ∃ v u, (results fn a.tmps).run P w = .ok u w ∧ VRel E v u ∧ TOk Φ (k v s.heap s.next) := by
  unfold retA at H
  obtain ⟨vs, us, h1, h2, h3, h4⟩ := resList_ok r _ H
  have hm : (fn.results.mapM (resSem a.tmps)).run P w = .ok us.toArray w := by
    rw [Array.mapM_eq_mapM_toList]
    simp [h1]
  have hr : (results fn a.tmps).run P w = .ok (if h : us.toArray.size = 1 then us.toArray[0] else .tuple us.toArray) w := by
    have hrr : results fn a.tmps = (do let vs ← fn.results.mapM (resSem a.tmps); pure (if h : vs.size = 1 then vs[0] else .tuple vs)) := by
      unfold results
      congr 2
    rw [hrr]
    simp [hm]
  match vs, us, h2, h3, h4, hr with
  | [v], [u], h2, h3, h4, hr => exact ⟨v, u, by simpa using hr, h3 0 v u rfl rfl, h4⟩
  | [], [], h2, h3, h4, hr => exact ⟨_, _, hr, .tup _ _ rfl fun j a u h => by simp at h, h4⟩
  | v :: v2 :: vs, u :: u2 :: us, h2, h3, h4, hr =>
    refine ⟨_, _, by rw [hr, dif_neg (by simp)], .tup _ _ (by simp at h2 ⊢; exact h2) fun j a u hj hu => h3 j a u hj (by simpa using hu), h4⟩
  | [], _ :: _, h2, _, _, _ => simp at h2
  | [_], [], h2, _, _, _ => simp at h2
  | [_], _ :: _ :: _, h2, _, _, _ => simp at h2
  | _ :: _ :: _, [], h2, _, _, _ => simp at h2
  | _ :: _ :: _, [_], h2, _, _, _ => simp at h2

theorem runs_ret {b : Frame} {fn : Func} {a : Act} {k : List Item} {w : World} {R : Value → World → Prop} {u : Value} (hf : P.funcs[b.fn]? = some fn) (hk : b.kind = .normal) (hd : a.defers = []) (hr : (results fn a.tmps).run P w = .ok u w) (hR : R u w)
    (hs : ∀ cs, step P (lone (b.at a k) cs w) = .next (lone { b.at a k with mode := .returning } cs w)) : Runs P b a k w R :=
  fun cs => ⟨u, w, _, hR, .one (hs cs), rfl, rfl, hd, hk, fn, hf, hr⟩

/-! ### Calls that are entered in place -/

theorem enter_rep {E : Env} {F : Fr} {h : Heap} {nx : Nat} {w : World} {fg : Func} {as : List AV} {vals : Array Value} (ha : ArgsRel E as vals) (g : Good E h nx w) (f : Framed F E h w) :
    Rep E F ⟨enterA fg as, h, nx⟩ { tmps := vals ++ Array.replicate (fg.ntmps - vals.size) undef, defers := [] } w := by
  refine ⟨⟨by simp [enterA, ha.1], fun d => ?_⟩, g, f, rfl⟩
  simp only [enterA, lget_eq, List.getD_eq_getElem?_getD, Array.getD_eq_getD_getElem?]
  by_cases hd : d < as.length
  · rw [List.getElem?_append_left hd, Array.getElem?_append_left (by rw [ha.1]; exact hd)]
    have h1 := List.getElem?_eq_getElem hd
    have h2 : vals[d]? = some (vals[d]'(by rw [ha.1]; exact hd)) := Array.getElem?_eq_getElem _
    rw [h1, h2]
    exact ha.2 d _ _ h1 h2
  · rw [List.getElem?_append_right (by omega), Array.getElem?_append_right (by rw [ha.1]; omega)]
    rw [List.getElem?_replicate, Array.getElem?_replicate, ha.1]
    split <;> exact undef_ok E

theorem fn_of_runs {f : FuncId} {fn : Func} {c : Code} {vals : Array Value} {w : World} {R : Value → World → Prop} (hf : P.funcs[f]? = some fn) (hb : fn.body = some c) (hn : (fn.name == "runtime.NumGoroutine") = false)
    (h : ∀ b : Frame, b.fn = f → b.kind = .normal → Runs P b { tmps := vals ++ Array.replicate (fn.ntmps - vals.size) undef, defers := [] } [.code c] w R) : FnOk P f vals w R := by
  have hn' : ¬ fn.name = "runtime.NumGoroutine" := by simpa using hn
  refine .inl ⟨by simp [callFunc, hf, hn', hb], fun cs => ?_⟩
  let b : Frame := { (default : Frame) with fn := f, kind := .normal }
  have henter : Frame.enter P f vals .normal = b.at { tmps := vals ++ Array.replicate (fn.ntmps - vals.size) undef, defers := [] } [.code c] := by
    simp [Frame.enter, Frame.at, hf, hb, b]
  obtain ⟨v, w', fr, h1, h2, h3, h4⟩ := h b rfl rfl cs
  exact ⟨.returned v, w', fr, ⟨v, rfl, h1⟩, by rw [henter]; exact h2, h3, h4⟩

/-! ### The evaluator -/

/-- What the evaluator at some fuel gives. -/
def ExecSound (P : Program) (cx : Cx) (n : Nat) : Prop :=
  ∀ (top : Bool) (u : Nat) (fn : Func) (todo : List Item) (s : St) (Φ : Post) (E0 : Env) (F : Fr) (n0 : Nat) (E : Env) (a : Act) (w : World) (b : Frame) (R : Value → World → Prop) (kd : AV → Heap → Nat → T), P.funcs[b.fn]? = some fn → b.kind = .normal → E0.le E → n0 ≤ s.next → Rep E F s a w →
    (∀ E' v h' nx' x w', E0.le E' → n0 ≤ nx' → VRel E' v x → Good E' h' nx' w' → Framed F E' h' w' → TOk Φ (kd v h' nx') → R x w') →
    (∀ E' todo' s' a' w', top = true → E0.le E' → n0 ≤ s'.next → Rep E' F s' a' w' → TOk Φ (cx.lf todo' s') → Runs P b a' todo' w' R) →
    TOk Φ (exec P cx n top u fn todo s kd) → Runs P b a todo w R

theorem callA_ok {cx : Cx} (hc : CxOk P cx) (n : Nat) (hs : ExecSound P cx n) : CallKOK P cx.ro (callA P cx (fun fg todo s k => exec P cx n false cx.inl fg todo s k)) := by
  refine ⟨callA_hom hc fun g hg hl fn todo s k => exec_hom hc hg hl n cx.inl fn todo s k, fun f as h nx v h' nx' H => ?_⟩
  unfold callA at H
  split at H
  · next o ho => exact (hc.orc f o ho).sound as h nx v h' nx' H
  · next ho =>
    have hro : cx.ro f = false := by
      cases hq : cx.ro f with
      | false => rfl
      | true => have := hc.ro f hq; rw [ho] at this; cases this
    split at H
    · next fg hf =>
      split at H
      · next c hb =>
        let g : T → T := fun t => match t with | .fail s => .fail s | .done v h n => cond (Nat.ble nx n) (.done v h n) (.fail "call: keys") | .leaf _ _ => .fail "leaf"
        have hh := exec_hom hc (g := g) (fun _ => rfl) (fun _ _ => rfl) n cx.inl fg [.code c] ⟨enterA fg as, h, nx⟩ T.done
        have H' : g (exec P cx n false cx.inl fg [.code c] ⟨enterA fg as, h, nx⟩ T.done) = T.done v h' nx' := hh.trans H
        cases hq : exec P cx n false cx.inl fg [.code c] ⟨enterA fg as, h, nx⟩ T.done with
        | fail s => rw [hq] at H'; cases H'
        | leaf t s => rw [hq] at H'; cases H'
        | done v2 h2 n2 =>
          rw [hq] at H'
          simp only [g] at H'
          cases hle : Nat.ble nx n2 with
          | false => rw [hle] at H'; cases H'
          | true =>
            rw [hle] at H'
            cases H'
            have hle' := bleN hle
            refine ⟨hle', fun E F w vals ha gd fd => ?_⟩
            rw [hro]
            refine fn_of_runs hf hb (hc.name f fg hf) fun b hbf hbk => ?_
            refine hs false cx.inl fg [.code c] ⟨enterA fg as, h, nx⟩ { d := fun a h n => a = v ∧ h = h' ∧ n = nx', l := fun _ _ => False } E F 0 E _ w b _ T.done (by rw [hbf]; exact hf) hbk (Env.le_refl E) (Nat.zero_le _) (enter_rep ha gd fd) ?_ ?_ ?_
            · rintro E' v1 h1 n1 x w' hE _ hv g1 f1 ⟨rfl, rfl, rfl⟩
              exact ⟨E', hE, hv, g1, f1, .inl rfl⟩
            · intro _ _ _ _ _ ht
              cases ht
            · rw [hq]; exact ⟨rfl, rfl, rfl⟩
      · cases H
    · cases H

theorem exec_sound {cx : Cx} (hc : CxOk P cx) : ∀ n, ExecSound P cx n
  | 0 => by intro top u fn todo s Φ E0 F n0 E a w b R kd _ _ _ _ _ _ _ H; exact H.elim
  | n + 1 => by
    have ih := exec_sound hc n
    have ck := callA_ok hc n ih
    intro top u fn todo s Φ E0 F n0 E a w b R kd hf hk hE hn r hd hl H
    have go : ∀ u todo s2 a2 w2 E2, E0.le E2 → n0 ≤ s2.next → Rep E2 F s2 a2 w2 → TOk Φ (exec P cx n top u fn todo s2 kd) → Runs P b a2 todo w2 R :=
      fun u todo s2 a2 w2 E2 hE2 hn2 r2 H2 => ih top u fn todo s2 Φ E0 F n0 E2 a2 w2 b R kd hf hk hE2 hn2 r2 hd hl H2
    have ret : ∀ k, TOk Φ (retA P fn s kd) → (∀ cs, step P (lone (b.at a k) cs w) = .next (lone { b.at a k with mode := .returning } cs w)) → Runs P b a k w R := by
      intro k H hs
      obtain ⟨v, x, h1, h2, h3⟩ := retA_ok r H
      exact runs_ret hf hk r.defers h1 (hd E v _ _ x w hE hn h2 r.good r.framed h3) hs
    have head : ∀ (c : Code) (k k0 : List Item), (∀ cs, step P (lone (b.at a k0) cs w) = .next (lone (b.at a (.code c :: .inLoop c :: k)) cs w)) →
        TOk Φ (match (generalizing := false) u with | 0 => cond top (cx.lf (.code c :: .inLoop c :: k) s) (.fail "loop") | u + 1 => exec P cx n top u fn (.code c :: .inLoop c :: k) s kd) → Runs P b a k0 w R := by
      intro c k k0 hs H
      refine .step hs ?_
      split at H
      · cases ht : top with
        | false => rw [ht] at H; exact H.elim
        | true =>
          rw [ht] at H
          exact hl E _ _ a w ht hE hn r H
      · exact go _ _ s a w E hE hn r H
    simp only [exec] at H
    split at H
    · exact ret _ H fun cs => step_end
    · exact .step (fun cs => step_inBlock) (go _ _ s a w E hE hn r H)
    · exact .step (fun cs => step_inScope) (go _ _ s a w E hE hn r H)
    · next c k => exact head c k _ (fun cs => step_inLoop) H
    · next c k =>
      cases c with
      | ret => exact ret _ H fun cs => step_ret
      | skip => exact .step (fun cs => step_skip) (go _ _ s a w E hE hn r H)
      | label l => exact .step (fun cs => step_label) (go _ _ s a w E hE hn r H)
      | seq x y => exact .step (fun cs => step_seq) (go _ _ s a w E hE hn r H)
      | cond c t e =>
        simp only at H
        have hv := evA_ok (ts := s.tmps) (a := a) c (fun d _ => r.tmps.get d)
        split at H
        · next q hq =>
          rw [hq] at hv
          generalize hcv : a.eval c = cv at hv
          cases hv with | one _ _ hv =>
          cases hv with | bool _ =>
          cases q with
          | true =>
            rw [knowA_eq hq] at H
            exact .step (fun cs => step_cond hcv) (go _ _ s a w E hE hn r H)
          | false =>
            rw [knowA_eq hq] at H
            exact .step (fun cs => step_cond hcv) (go _ _ s a w E hE hn r H)
        · exact H.elim
      | block id x => exact .step (fun cs => step_block) (go _ _ s a w E hE hn r H)
      | scope x => exact .step (fun cs => step_scope) (go _ _ s a w E hE hn r H)
      | loop x => exact head x k _ (fun cs => step_loop) H
      | exit id =>
        simp only at H
        split at H
        · next k' hk' => exact .step (fun cs => step_exit hk') (go _ _ s a w E hE hn r H)
        · exact H.elim
      | goto l =>
        simp only at H
        split at H
        · next k' hk' => exact .step (fun cs => step_goto hk') (go _ _ s a w E hE hn r H)
        · exact H.elim
      | region id ops draw =>
        simp only [hzA, okZsK_eq] at H
        obtain ⟨hq, H⟩ := cond_ok H
        obtain ⟨E1, hE1, r1⟩ := Rep.fzs _ r hq
        have hE' : E0.le E1 := Env.le_trans hE hE1
        have hn1 : n0 ≤ (fzs (zsOf (cx.hz fn.ntmps id) s) s).next := by rw [fzs_next]; exact hn
        generalize fzs (zsOf (cx.hz fn.ntmps id) s) s = s1 at *
        refine Runs.region ?_
        cases draw with
        | true =>
          refine wp_region_any hc.orders ?_
          obtain ⟨gd, fd⟩ := r1.good.drew r1.framed
          exact seqD_ok (F := F) ck (E0 := E0) (Q := fun e a' w' => e = .normal ∧ Runs P b a' k w' R) (fun E2 s2 a2 w2 hE2 hn2 r2 H2 => ⟨rfl, go _ _ s2 a2 w2 E2 hE2 (Nat.le_trans hn1 hn2) r2 H2⟩) hE' ⟨r1.tmps, gd, fd, r1.defers⟩ H
        | false =>
          refine wp_region ?_
          have := seqA_ok (F := F) (n0 := n0) ck (E0 := E0) (Q := fun e a' w' => e = .normal ∧ Runs P b a' k w' R) (fun E2 s2 a2 w2 hE2 hn2 r2 H2 => ⟨rfl, go _ _ s2 a2 w2 E2 hE2 hn2 r2 H2⟩) ops.toList 0 s1 E1 a w (fun j o hj => by simpa using hj) hE' hn1 r1 H
          rw [List.range_eq_range']
          simpa using this
      | _ => exact H.elim
    · exact H.elim

/-- A function's run. -/
theorem runK_sound {cx : Cx} (hc : CxOk P cx) {n u : Nat} {f : FuncId} {as : List AV} {h : Heap} {nx : Nat} {kd : AV → Heap → Nat → T} {Φ : Post} {E : Env} {F : Fr} {w : World} {vals : Array Value} {R : Value → World → Prop} (ha : ArgsRel E as vals) (g : Good E h nx w) (fd : Framed F E h w)
    (H : TOk Φ (runK P cx n u f as h nx kd)) (hd : ∀ E' v h' nx' x w', E.le E' → nx ≤ nx' → VRel E' v x → Good E' h' nx' w' → Framed F E' h' w' → TOk Φ (kd v h' nx') → R x w')
    (hl : ∀ b fn E' todo' s' a' w', P.funcs[f]? = some fn → b.fn = f → b.kind = .normal → E.le E' → nx ≤ s'.next → Rep E' F s' a' w' → TOk Φ (cx.lf todo' s') → Runs P b a' todo' w' R) : FnOk P f vals w R := by
  unfold runK at H
  split at H
  · next fg hf =>
    split at H
    · next c hb =>
      exact fn_of_runs hf hb (hc.name f fg hf) fun b hbf hbk => exec_sound hc n true u fg [.code c] _ Φ E F nx E _ w b R kd (by rw [hbf]; exact hf) hbk (Env.le_refl E) (Nat.le_refl _) (enter_rep ha g fd) hd (fun E' todo' s' a' w' _ hE hn r hl' => hl b fg E' todo' s' a' w' hf hbf hbk hE hn r hl') H
    · exact H.elim
  · exact H.elim
end
end Go.Ab

/- The abstract machine: other names for the objects. Definitions alone. -/
namespace Go.Ab

def pos : List Nat → Nat → Option Nat
  | [], _ => none
  | j :: ks, k => cond (Nat.beq j k) (some 0) (match pos ks k with | some i => some (i + 1) | none => none)

/-- A cell with other names; what has none is said no more of. -/
def mapC (φ : Nat → Option Nat) : AC → AC
  | .ptr k o => match φ k with | some i => .ptr i o | none => .top
  | .sl k off len sz cap => match φ k with | some i => .sl i off len sz cap | none => .top
  | .mp k => match φ k with | some i => .mp i | none => .top
  | .fn f caps => .fn f (go caps)
  | .ifc t c => .ifc t (mapC φ c)
  | c => c
where go : List AC → List AC
  | [] => []
  | c :: cs => mapC φ c :: go cs

def mapV (φ : Nat → Option Nat) : AV → AV
  | .one c => .one (mapC φ c)
  | .agg cs => .agg (cs.map (mapC φ))
  | .iagg k n xs => .iagg k n xs
  | .tup vs => .tup (go vs)
  | .any => .any
where go : List AV → List AV
  | [] => []
  | v :: vs => mapV φ v :: go vs

def mapO (φ : Nat → Option Nat) : AObj → AObj
  | .arrc n cs => .arrc n (cs.map (mapC φ))
  | .mapi es k => .mapi (es.map fun e => (e.1, mapV φ e.2)) k
  | o => o

/-- The objects of some keys, named by their places. -/
def canonH (φ : Nat → Option Nat) (h : Heap) : Nat → List Nat → Heap
  | _, [] => []
  | i, k :: ks => (i, mapO φ (hget h k)) :: canonH φ h (i + 1) ks

/-- The name of an object of a run, outside of it. -/
def bk (ks : List Nat) (m nx : Nat) (i : Nat) : Nat := cond (Nat.blt i m) (lget 0 ks i) (nx + (i - m))

def backH (ks : List Nat) (m nx : Nat) (h : Heap) (h2 : Heap) (wr : List Nat) : Heap :=
  wr.foldl (fun h i => hset h (bk ks m nx i) (mapO (fun i => some (bk ks m nx i)) (hget h2 i))) h

/-- What is written: all that was shown, and all that is new; or what is new alone. -/
def wrR (ro : Bool) (m : Nat) (h2 : Heap) : List Nat :=
  cond ro ((h2.map Prod.fst).filter (Nat.ble m)) (List.range m ++ (h2.map Prod.fst).filter (Nat.ble m))

/-- A function that is known of objects that are named 0, 1, ..: known of any. -/
def mkOrcK (ro : Bool) (spec : Orc) (ks : List Nat) : Orc := fun as h nx fail k =>
  cond (ks.all fun k => Nat.blt k nx)
    (spec (as.map (mapV (pos ks))) (canonH (pos ks) h 0 ks) ks.length fail fun v h2 n2 =>
      cond (Nat.ble ks.length n2) (k (mapV (fun i => some (bk ks ks.length nx i)) v) (backH ks ks.length nx h h2 (wrR ro ks.length h2)) (nx + (n2 - ks.length))) (fail "oracle: keys"))
    (fail "oracle: old keys")

def mkOrc (ro : Bool) (spec : Orc) : Orc := fun as h nx fail k => mkOrcK ro spec (reach 40 h [] (as.flatMap keysV)).reverse as h nx fail k
end Go.Ab
namespace Go.Ab

/-- A state with other names: object j is what ks[j] was; what is not alive is forgotten. -/
def canonT (φ : Nat → Option Nat) : List Bool → List AV → List AV
  | b :: bs, v :: vs => cond b (mapV φ v) .any :: canonT φ bs vs
  | [], _ :: vs => .any :: canonT φ [] vs
  | _, [] => []

def canonSt (live : List Bool) (ks : List Nat) (s : St) : St := ⟨canonT (pos ks) live s.tmps, canonH (pos ks) s.heap 0 ks, ks.length⟩

/-- Does a list of names keep the first n0, and name nothing twice? -/
def okKs (n0 : Nat) (ks : List Nat) : Bool := Nat.ble n0 ks.length && ((List.range n0).all fun j => Nat.beq (ks.getD j n0) j) && nodupB ks
where nodupB : List Nat → Bool
  | [] => true
  | k :: ks => !(has ks k) && nodupB ks

end Go.Ab

/- The abstract machine: other names for the objects. -/
namespace Go.Ab
section
variable {P : Program}

/-- Names of E, as names of E'. -/
structure KeyMap (φ : Nat → Option Nat) (E E' : Env) : Prop where
  blk : ∀ k j b, E.blk k = some b → φ k = some j → E'.blk j = some b ∧ E'.base j = E.base k ∧ E'.size j = E.size k
  mem : ∀ b m, E.mem b = some m → E'.mem b = some m

theorem mapC_go (φ : Nat → Option Nat) : ∀ (cs : List AC), mapC.go φ cs = cs.map (mapC φ)
  | [] => rfl
  | c :: cs => by simp [mapC.go, mapC_go φ cs]
theorem mapV_go (φ : Nat → Option Nat) : ∀ (vs : List AV), mapV.go φ vs = vs.map (mapV φ)
  | [] => rfl
  | c :: cs => by simp [mapV.go, mapV_go φ cs]

theorem nokeys_go : ∀ (cs : List AC), nokeys.go cs = cs.all nokeys
  | [] => rfl
  | c :: cs => by simp [nokeys.go, nokeys_go cs]

/-- What names no object is so in any environment. -/
theorem CRel.nk {E E' : Env} (hm : ∀ b m, E.mem b = some m → E'.mem b = some m) {c : AC} {v : Value} (h : CRel E c v) : nokeys c = true → CRel E' c v := by
  induction h with
  | top v h => intro _; exact .top v h
  | int k n => intro _; exact .int k n
  | bool b => intro _; exact .bool b
  | str s => intro _; exact .str s
  | nilp => intro _; exact .nilp
  | nilf => intro _; exact .nilf
  | nili => intro _; exact .nili
  | nils => intro _; exact .nils
  | emp a => intro _; exact .emp a
  | mt a c => intro _; exact .mt a c
  | nilm => intro _; exact .nilm
  | ptr key off b hb => intro h; cases h
  | sl key off len sz cap a c hl hc ha => intro h; cases h
  | imi k n xs a c hn hl hz ha =>
    intro _
    refine .imi k n xs a c hn hl hz (ha.imp id ?_)
    rintro ⟨b, o, m, ha, hm', hx⟩
    exact ⟨b, o, m, ha, hm _ _ hm', hx⟩
  | imc0 sz a c => intro _; exact .imc0 sz a c
  | imc sz n xs b o c m us hn hl hm' hk hu _ ih => intro _; exact .imc sz n xs b o c m us hn hl (hm _ _ hm') hk hu fun j c hj => ih j c hj (hk c (List.mem_of_getElem? hj))
  | pim k n b o m hm' hu => intro _; exact .pim k n b o m (hm _ _ hm') hu
  | pic xs b o m us hm' hk hu _ ih => intro _; exact .pic xs b o m us (hm _ _ hm') hk hu fun j c hj => ih j c hj (hk c (List.mem_of_getElem? hj))
  | fn f caps vs us hn hu _ ih =>
    intro h
    simp only [nokeys, nokeys_go, List.all_eq_true] at h
    exact .fn f caps vs us hn hu fun j c hj => ih j c hj (h c (List.mem_of_getElem? hj))
  | ifc t c v _ ih => intro h; exact .ifc t c v (ih h)
  | mp key b hb => intro h; cases h

theorem CRel.map {φ : Nat → Option Nat} {E E' : Env} (hφ : KeyMap φ E E') {c : AC} {v : Value} (h : CRel E c v) : CRel E' (mapC φ c) v := by
  induction h with
  | top v h => exact .top v h
  | int k n => exact .int k n
  | bool b => exact .bool b
  | str s => exact .str s
  | nilp => exact .nilp
  | nilf => exact .nilf
  | nili => exact .nili
  | nils => exact .nils
  | emp a => exact .emp a
  | mt a c => exact .mt a c
  | nilm => exact .nilm
  | ptr key off b hb =>
    simp only [mapC]
    split
    · next i hi =>
      obtain ⟨h1, h2, _⟩ := hφ.blk _ _ _ hb hi
      rw [← h2]; exact .ptr i off b h1
    · exact .top _ rfl
  | sl key off len sz cap a c hl hc ha =>
    simp only [mapC]
    split
    · next i hi =>
      refine .sl i off len sz cap a c hl hc (ha.imp id ?_)
      rintro ⟨b, hb, ha, hs⟩
      obtain ⟨h1, h2, h3⟩ := hφ.blk _ _ _ hb hi
      exact ⟨b, h1, by rw [h2]; exact ha, by rw [h2, h3]; exact hs⟩
    · exact .top _ rfl
  | imi k n xs a c hn hl hz ha =>
    refine .imi k n xs a c hn hl hz (ha.imp id ?_)
    rintro ⟨b, o, m, ha, hm, hx⟩
    exact ⟨b, o, m, ha, hφ.mem _ _ hm, hx⟩
  | imc0 sz a c => exact .imc0 sz a c
  | imc sz n xs b o c m us hn hl hm hk hu hr _ => exact .imc sz n xs b o c m us hn hl (hφ.mem _ _ hm) hk hu fun j c hj => (hr j c hj).nk hφ.mem (hk c (List.mem_of_getElem? hj))
  | pim k n b o m hm hu => exact .pim k n b o m (hφ.mem _ _ hm) hu
  | pic xs b o m us hm hk hu hr _ => exact .pic xs b o m us (hφ.mem _ _ hm) hk hu fun j c hj => (hr j c hj).nk hφ.mem (hk c (List.mem_of_getElem? hj))
  | fn f caps vs us hn hu _ ih =>
    simp only [mapC, mapC_go]
    refine .fn f _ vs us (by simpa using hn) (fun j c hj => ?_) (fun j c hj => ?_)
    · simp only [List.getElem?_map, Option.map_eq_some_iff] at hj
      obtain ⟨c', h1, _⟩ := hj
      exact hu j c' h1
    · simp only [List.getElem?_map, Option.map_eq_some_iff] at hj
      obtain ⟨c', h1, rfl⟩ := hj
      exact ih j c' h1
  | ifc t c v _ ih => exact .ifc t _ v ih
  | mp key b hb =>
    simp only [mapC]
    split
    · next i hi => exact .mp i b (hφ.blk _ _ _ hb hi).1
    · exact .top _ rfl

theorem Cells.map {φ : Nat → Option Nat} {E E' : Env} (hφ : KeyMap φ E E') {cs : List AC} {m : Array Value} {o : Nat} (h : Cells E cs m o) : Cells E' (cs.map (mapC φ)) m o := by
  intro j c hj
  simp only [List.getElem?_map, Option.map_eq_some_iff] at hj
  obtain ⟨c', h1, rfl⟩ := hj
  obtain ⟨u, h2, h3⟩ := h j c' h1
  exact ⟨u, h2, h3.map hφ⟩

theorem VRel.map {φ : Nat → Option Nat} {E E' : Env} (hφ : KeyMap φ E E') {a : AV} {v : Value} (h : VRel E a v) : VRel E' (mapV φ a) v := by
  induction h with
  | one c v h => exact .one _ v (h.map hφ)
  | agg cs vs hn h => exact .agg _ vs (by simpa using hn) (h.map hφ)
  | iagg k n xs vs hn hx h => exact .iagg k n xs vs hn hx h
  | any v => exact .any v
  | tup as vs hn _ ih =>
    simp only [mapV, mapV_go]
    refine .tup _ vs (by simpa using hn) fun j a u hj hu => ?_
    simp only [List.getElem?_map, Option.map_eq_some_iff] at hj
    obtain ⟨a', h1, rfl⟩ := hj
    exact ih j a' u h1 hu

theorem Holds.map {φ : Nat → Option Nat} {E E' : Env} (hφ : KeyMap φ E E') {w : World} {k j : Nat} {o : AObj} (hk : φ k = some j) (h : Holds E w k o) : Holds E' w j (mapO φ o) := by
  cases o with
  | none => trivial
  | arri kd n xs =>
    obtain ⟨b, c, t, fr, h1, h2, h3, h4⟩ := h
    obtain ⟨e1, e2, e3⟩ := hφ.blk _ _ _ h1 hk
    exact ⟨b, c, t, fr, e1, e2.trans h2, e3.trans h3, h4⟩
  | arrc n cs =>
    obtain ⟨b, c, t, fr, h1, h2, h3, h4, h5, h6, h7, h8⟩ := h
    obtain ⟨e1, e2, e3⟩ := hφ.blk _ _ _ h1 hk
    exact ⟨b, c, t, fr, e1, e2.trans h2, e3.trans h3, by simpa using h4, h5, h6, h7, h8.map hφ⟩
  | bufi kd n xs =>
    obtain ⟨b, c, t, fr, h1, h2, h3, h4, h5, h6, h7⟩ := h
    obtain ⟨e1, e2, e3⟩ := hφ.blk _ _ _ h1 hk
    exact ⟨b, c, t, fr, e1, e3.trans h2, h3, h4, h5, by rw [e2]; exact h6, by rw [e2]; exact h7⟩
  | bufc sz n cs =>
    obtain ⟨b, c, t, fr, h1, h2, h3, h4, h5, h6, h7, h8⟩ := h
    obtain ⟨e1, e2, e3⟩ := hφ.blk _ _ _ h1 hk
    refine ⟨b, c, t, fr, e1, e3.trans h2, h3, h4, h5, by rw [e2]; exact h6, ?_, h8⟩
    rw [e2]
    intro j c hj
    obtain ⟨u, h2, h3⟩ := h7 j c hj
    exact ⟨u, h2, h3.nk hφ.mem (h8 c (List.mem_of_getElem? hj))⟩
  | mapi es kd =>
    obtain ⟨b, ents, cl, h1, h2, h3, h4⟩ := h
    obtain ⟨e1, _, _⟩ := hφ.blk _ _ _ h1 hk
    refine ⟨b, ents, cl, e1, h2, by simpa using h3, fun j i v hj => ?_⟩
    simp only [List.getElem?_map, Option.map_eq_some_iff] at hj
    obtain ⟨⟨i', v'⟩, q1, q2⟩ := hj
    cases q2
    obtain ⟨e, a1, a2, a3⟩ := h4 j i' v' q1
    exact ⟨e, a1, a2, a3.map hφ⟩

theorem mapO_live {φ : Nat → Option Nat} {o : AObj} : (mapO φ o).live ↔ o.live := by cases o <;> exact Iff.rfl

/-! ### Places -/

theorem pos_spec : ∀ (ks : List Nat) (k i : Nat), pos ks k = some i → ks[i]? = some k
  | [], k, i, h => by cases h
  | j :: ks, k, i, h => by
    simp only [pos] at h
    cases hq : Nat.beq j k with
    | true =>
      rw [hq] at h
      cases h
      rw [Nat.eq_of_beq_eq_true hq]; rfl
    | false =>
      rw [hq] at h
      simp only [cond_false] at h
      split at h
      · next i' hi =>
        cases h
        simpa using pos_spec ks k i' hi
      · cases h

theorem pos_of {ks : List Nat} (hn : ks.Nodup) {i k : Nat} (h : ks[i]? = some k) : pos ks k = some i := by
  induction ks generalizing i with
  | nil => cases h
  | cons j ks ih =>
    simp only [pos]
    rw [List.nodup_cons] at hn
    cases i with
    | zero =>
      simp at h; subst h
      simp
    | succ i =>
      have h' : ks[i]? = some k := by simpa using h
      have hne : j ≠ k := fun e => hn.1 (e ▸ List.mem_of_getElem? h')
      have : Nat.beq j k = false := by rw [Bool.eq_false_iff]; intro h; exact hne (Nat.eq_of_beq_eq_true h)
      simp [this, ih hn.2 h']

theorem reach_nodup : ∀ (n : Nat) (h : Heap) (seen todo : List Nat), seen.Nodup → (reach n h seen todo).Nodup
  | 0, _, _, _, hn => hn
  | _ + 1, _, _, [], hn => hn
  | n + 1, h, seen, k :: ks, hn => by
    simp only [reach]
    cases hq : has seen k with
    | true => exact reach_nodup n h seen ks hn
    | false =>
      refine reach_nodup n h (k :: seen) _ (List.nodup_cons.2 ⟨fun hm => ?_, hn⟩)
      rw [has_iff.2 hm] at hq; cases hq

theorem hget_canonH (φ : Nat → Option Nat) (h : Heap) : ∀ (ks : List Nat) (i j : Nat), hget (canonH φ h i ks) j = if i ≤ j then (match ks[j - i]? with | some k => mapO φ (hget h k) | none => .none) else .none
  | [], i, j => by simp [canonH, hget]
  | k :: ks, i, j => by
    simp only [canonH, hget]
    by_cases e : i = j
    · subst e; simp
    · have : Nat.beq i j = false := by rw [Bool.eq_false_iff]; intro h; exact e (Nat.eq_of_beq_eq_true h)
      rw [this, cond_false, hget_canonH φ h ks (i + 1) j]
      by_cases h1 : i ≤ j
      · rw [if_pos h1, if_pos (by omega)]
        have : j - i = (j - (i + 1)) + 1 := by omega
        rw [this]; simp
      · rw [if_neg h1, if_neg (by omega)]

theorem bk_inj {ks : List Nat} {nx : Nat} (hn : ks.Nodup) (hlt : ∀ k ∈ ks, k < nx) {i j : Nat} (h : bk ks ks.length nx i = bk ks ks.length nx j) : i = j := by
  have old : ∀ i, i < ks.length → bk ks ks.length nx i = ks.getD i 0 ∧ ks.getD i 0 < nx ∧ ks[i]? = some (ks.getD i 0) := fun i hi => by
    have h1 := List.getElem?_eq_getElem hi
    have h2 : ks.getD i 0 = ks[i] := by simp [List.getD_eq_getElem?_getD, h1]
    refine ⟨?_, by rw [h2]; exact hlt _ (List.getElem_mem hi), by rw [h2]; exact h1⟩
    have : Nat.blt i ks.length = true := by simpa [Nat.blt] using Nat.ble_eq_true_of_le hi
    simp [bk, this, lget_eq]
  have new : ∀ i, ¬ i < ks.length → bk ks ks.length nx i = nx + (i - ks.length) := fun i hi => by
    have : Nat.blt i ks.length = false := by
      rw [Bool.eq_false_iff]; intro h; exact hi (bltN h)
    simp [bk, this]
  by_cases hi : i < ks.length <;> by_cases hj : j < ks.length
  · obtain ⟨a1, a2, a3⟩ := old i hi
    obtain ⟨b1, b2, b3⟩ := old j hj
    have e : ks.getD i 0 = ks.getD j 0 := by rw [← a1, ← b1, h]
    have p1 := pos_of hn a3
    have p2 := pos_of hn b3
    rw [e, p2] at p1
    exact (Option.some.inj p1).symm
  · obtain ⟨a1, a2, _⟩ := old i hi
    rw [a1, new j hj] at h; omega
  · obtain ⟨a1, a2, _⟩ := old j hj
    rw [a1, new i hi] at h; omega
  · rw [new i hi, new j hj] at h; omega

theorem hget_backH {ks : List Nat} {nx : Nat} (hinj : ∀ i j, bk ks ks.length nx i = bk ks ks.length nx j → i = j) (h2 : Heap) : ∀ (wr : List Nat) (h : Heap) (k : Nat),
    (∀ i, i ∈ wr → bk ks ks.length nx i = k → hget (backH ks ks.length nx h h2 wr) k = mapO (fun i => some (bk ks ks.length nx i)) (hget h2 i)) ∧
    ((∀ i ∈ wr, bk ks ks.length nx i ≠ k) → hget (backH ks ks.length nx h h2 wr) k = hget h k)
  | [], h, k => ⟨fun i hi => (by cases hi), fun _ => rfl⟩
  | j :: wr, h, k => by
    obtain ⟨i1, i2⟩ := hget_backH hinj h2 wr (hset h (bk ks ks.length nx j) (mapO (fun i => some (bk ks ks.length nx i)) (hget h2 j))) k
    simp only [backH, List.foldl_cons] at i1 i2 ⊢
    refine ⟨fun i hi hik => ?_, fun hno => ?_⟩
    · by_cases hm : i ∈ wr
      · exact i1 i hm hik
      · have : i = j := by
          rcases List.mem_cons.1 hi with e | e
          · exact e
          · exact absurd e hm
        subst this
        rw [i2 fun i' hi' e => hm (by rw [hinj i i' (by rw [hik, e])]; exact hi'), hget_hset, if_pos hik]
    · rw [i2 fun i hi => hno i (List.mem_cons_of_mem _ hi), hget_hset, if_neg (hno j (List.mem_cons_self ..))]
end
end Go.Ab
