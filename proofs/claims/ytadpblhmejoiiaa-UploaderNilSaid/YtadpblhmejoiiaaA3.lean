/- The texts Ab.Sound26, Ab.Fz, Ab.Sound28, Ab.Sound27: parts of the proof. -/
import Derived.Test.YtadpblhmejoiiaaA2
set_option linter.unusedSimpArgs false
set_option linter.unusedVariables false

/- The abstract machine: a function that is known of named objects is known of any. -/
namespace Go.Ab
section
variable {P : Program}

/-- The environment with the objects of a list alone, named by their places. -/
def Env.pull (E : Env) (ks : List Nat) : Env :=
  { blk := fun i => match ks[i]? with | some k => E.blk k | none => none
    base := fun i => E.base (ks.getD i 0)
    size := fun i => E.size (ks.getD i 0)
    mem := E.mem
    lo := ks.length }

theorem pull_map (E : Env) (ks : List Nat) : KeyMap (pos ks) E (E.pull ks) := by
  refine ⟨fun k j b hb hj => ?_, fun _ _ h => h⟩
  have h1 := pos_spec ks k j hj
  have h2 : ks.getD j 0 = k := by simp [List.getD_eq_getElem?_getD, h1]
  simp only [Env.pull, h1, h2]
  exact ⟨hb, trivial, trivial⟩

theorem pull_blk {E : Env} {ks : List Nat} {i b : Nat} (h : (E.pull ks).blk i = some b) : ∃ k, ks[i]? = some k ∧ E.blk k = some b := by
  simp only [Env.pull] at h
  split at h
  · next k hk => exact ⟨k, hk, h⟩
  · cases h

def Fr.pull (E : Env) (w : World) (h : Heap) (ks : List Nat) : Fr := { w0 := w, wr := fun b => ∃ k ∈ ks, (hget h k).live ∧ E.blk k = some b, mem0 := E.mem }

theorem pull_good {E : Env} {h : Heap} {nx : Nat} {w : World} {ks : List Nat} (g : Good E h nx w) (hn : ks.Nodup) :
    Good (E.pull ks) (canonH (pos ks) h 0 ks) ks.length w ∧ Framed (Fr.pull E w h ks) (E.pull ks) (canonH (pos ks) h 0 ks) w := by
  have hg : ∀ i, hget (canonH (pos ks) h 0 ks) i = match ks[i]? with | some k => mapO (pos ks) (hget h k) | none => .none := fun i => by
    rw [hget_canonH, if_pos (Nat.zero_le i), Nat.sub_zero]
    cases ks[i]? <;> rfl
  have live : ∀ i, (hget (canonH (pos ks) h 0 ks) i).live → ∃ k, ks[i]? = some k ∧ (hget h k).live := fun i hi => by
    rw [hg] at hi
    split at hi
    · next k hk => exact ⟨k, hk, mapO_live.1 hi⟩
    · exact hi.elim
  refine ⟨⟨fun i => ?_, fun i j b hi hj hb hb' => ?_, fun i b hi hb => ?_, g.mem, fun i hi => ?_⟩, ⟨Nat.le_refl _, fun _ _ _ => rfl, fun i b hi hb => ?_, fun b m hm => .inl hm, rfl, rfl, rfl⟩⟩
  · rw [hg]
    split
    · next k hk => exact (g.holds k).map (pull_map E ks) (pos_of hn hk)
    · trivial
  · obtain ⟨k, k1, k2⟩ := live i hi
    obtain ⟨l, l1, l2⟩ := live j hj
    obtain ⟨k', e1, e2⟩ := pull_blk hb
    obtain ⟨l', e3, e4⟩ := pull_blk hb'
    rw [k1] at e1; cases e1
    rw [l1] at e3; cases e3
    have := g.inj k l b k2 l2 e2 e4
    subst this
    have p1 := pos_of hn k1
    have p2 := pos_of hn l1
    rw [p1] at p2; exact Option.some.inj p2
  · obtain ⟨k, k1, k2⟩ := live i hi
    obtain ⟨k', e1, e2⟩ := pull_blk hb
    rw [k1] at e1; cases e1
    exact g.imm k b k2 e2
  · refine ⟨?_, hi⟩
    simp [Env.pull, List.getElem?_eq_none hi]
  · obtain ⟨k, k1, k2⟩ := live i hi
    obtain ⟨k', e1, e2⟩ := pull_blk hb
    rw [k1] at e1; cases e1
    exact .inr ⟨k, List.mem_of_getElem? k1, k2, e2⟩

/-- The environment behind it. -/
def Env.push (E E1 : Env) (m nx n2 : Nat) : Env :=
  { blk := fun k => if nx ≤ k ∧ k < nx + (n2 - m) then E1.blk (k - nx + m) else E.blk k
    base := fun k => if nx ≤ k ∧ k < nx + (n2 - m) then E1.base (k - nx + m) else E.base k
    size := fun k => if nx ≤ k ∧ k < nx + (n2 - m) then E1.size (k - nx + m) else E.size k
    mem := E1.mem
    lo := E.lo }

theorem bk_old {ks : List Nat} {nx i k : Nat} (h : ks[i]? = some k) : bk ks ks.length nx i = k := by
  have hi : i < ks.length := (List.getElem?_eq_some_iff.1 h).1
  have : Nat.blt i ks.length = true := by simpa [Nat.blt] using Nat.ble_eq_true_of_le hi
  simp [bk, this, lget_eq, List.getD_eq_getElem?_getD, h]

theorem bk_new {ks : List Nat} {nx i : Nat} (h : ks.length ≤ i) : bk ks ks.length nx i = nx + (i - ks.length) := by
  have : Nat.blt i ks.length = false := by
    rw [Bool.eq_false_iff]; intro hh; have := bltN hh; omega
  simp [bk, this]

theorem push_facts {E E1 : Env} {h h2 : Heap} {nx n2 : Nat} {w w' : World} {ks : List Nat} (g : Good E h nx w) (hle : (E.pull ks).le E1) (g1 : Good E1 h2 n2 w') :
    E.le (E.push E1 ks.length nx n2) ∧ KeyMap (fun i => some (bk ks ks.length nx i)) E1 (E.push E1 ks.length nx n2) := by
  have old : ∀ k b, E.blk k = some b → ¬ (nx ≤ k ∧ k < nx + (n2 - ks.length)) := fun k b hb ⟨h1, _⟩ => by rw [(g.fresh k h1).1] at hb; cases hb
  refine ⟨⟨fun k b hb => ?_, fun b m hm => hle.mem b m hm, rfl, fun k b hb => ?_⟩, ⟨fun i j b hb hj => ?_, fun _ _ h => h⟩⟩
  · have := old k b hb
    simp only [Env.push, this, if_false]
    exact ⟨hb, trivial, trivial⟩
  · by_cases hk : nx ≤ k ∧ k < nx + (n2 - ks.length)
    · exact .inr (Nat.le_trans (g.fresh nx (Nat.le_refl _)).2 hk.1)
    · simp only [Env.push, hk, if_false] at hb
      exact .inl hb
  · simp only [Option.some.injEq] at hj
    have hi2 : i < n2 := by
      rcases Nat.lt_or_ge i n2 with h | h
      · exact h
      · rw [(g1.fresh i h).1] at hb; cases hb
    by_cases hi : i < ks.length
    · have h0 := (hle.new i b hb).resolve_right (Nat.not_le.2 hi)
      obtain ⟨k, hk, hbk⟩ := pull_blk h0
      obtain ⟨_, e2, e3⟩ := hle.blk i b h0
      rw [bk_old hk] at hj
      subst hj
      have := old k b hbk
      have hkd : ks.getD i 0 = k := by simp [List.getD_eq_getElem?_getD, hk]
      simp only [Env.push, this, if_false]
      refine ⟨hbk, ?_, ?_⟩
      · rw [e2]; simp only [Env.pull, hkd]
      · rw [e3]; simp only [Env.pull, hkd]
    · rw [bk_new (Nat.not_lt.1 hi)] at hj
      subst hj
      have hin : nx ≤ nx + (i - ks.length) ∧ nx + (i - ks.length) < nx + (n2 - ks.length) := ⟨by omega, by omega⟩
      have hi' : nx + (i - ks.length) - nx + ks.length = i := by omega
      simp only [Env.push, hin, and_self, if_true, hi']
      exact ⟨hb, trivial⟩

theorem push_step {E E1 : Env} {F : Fr} {h h2 : Heap} {nx n2 : Nat} {w w' : World} {ks wr : List Nat} {ro : Bool} (g : Good E h nx w) (f : Framed F E h w) (hn : ks.Nodup) (hlt : ∀ k ∈ ks, k < nx) 
    (hle : (E.pull ks).le E1) (g1 : Good E1 h2 n2 w') (f1 : Framed (Fr.pull E w h ks) E1 h2 w')
    (hwr : (∀ i, i < ks.length → i ∈ wr) ∨ (Kept (E.pull ks) E1 ks.length w w' ∧ ∀ i ∈ wr, ks.length ≤ i)) (hro : ro = true → Kept (E.pull ks) E1 ks.length w w') :
    Good (E.push E1 ks.length nx n2) (backH ks ks.length nx h h2 wr) (nx + (n2 - ks.length)) w' ∧ Framed F (E.push E1 ks.length nx n2) (backH ks ks.length nx h h2 wr) w' ∧ ((!ro) = true ∨ Kept E (E.push E1 ks.length nx n2) nx w w') := by
  obtain ⟨pl, pm⟩ := push_facts g hle g1
  have inj := fun i j => bk_inj (ks := ks) (nx := nx) hn hlt (i := i) (j := j)
  have hb := hget_backH (ks := ks) (nx := nx) inj h2 wr h
  have getW : ∀ i, i ∈ wr → hget (backH ks ks.length nx h h2 wr) (bk ks ks.length nx i) = mapO (fun i => some (bk ks ks.length nx i)) (hget h2 i) := fun i hi => (hb _).1 i hi rfl
  have getN : ∀ k, (∀ i ∈ wr, bk ks ks.length nx i ≠ k) → hget (backH ks ks.length nx h h2 wr) k = hget h k := fun k hk => (hb k).2 hk
  have split : ∀ k, (∃ i, i ∈ wr ∧ bk ks ks.length nx i = k) ∨ (∀ i ∈ wr, bk ks ks.length nx i ≠ k) := fun k => by
    by_cases hx : ∃ i, i ∈ wr ∧ bk ks ks.length nx i = k
    · exact .inl hx
    · exact .inr fun i hi e => hx ⟨i, hi, e⟩
  -- what is not written is as it was
  have vis : ∀ k k2 b, (hget h k).live → E.blk k = some b → k2 ∈ ks → (hget h k2).live → E.blk k2 = some b → ∃ i, i < ks.length ∧ ks[i]? = some k := fun k k2 b hl hbk hk2 hl2 hb2 => by
    have := g.inj k k2 b hl hl2 hbk hb2
    subst this
    obtain ⟨i, hi⟩ := List.getElem?_of_mem hk2
    exact ⟨i, (List.getElem?_eq_some_iff.1 hi).1, hi⟩
  have hun : ∀ k, (∀ i ∈ wr, bk ks ks.length nx i ≠ k) → ∀ b, (hget h k).live → E.blk k = some b → w'.heap[b]? = w.heap[b]? := by
    intro k hk b hl hbk
    have hlt' : b < w.heap.size := g.lt hl hbk
    rcases hwr with hwr | ⟨hkp, _⟩
    · refine f1.old b hlt' ?_
      rintro ⟨k2, hk2, hl2, hb2⟩
      obtain ⟨i, hi, hik⟩ := vis k k2 b hl hbk hk2 hl2 hb2
      exact hk i (hwr i hi) (bk_old hik)
    · exact hkp.old b hlt'
  have bw : ∀ i b, (hget h2 i).live → (E.push E1 ks.length nx n2).blk (bk ks ks.length nx i) = some b → E1.blk i = some b := fun i b hl hb => by
    obtain ⟨b', o, hb', _⟩ := g1.block hl
    have := (pm.blk i _ b' hb' rfl).1
    rw [hb] at this; cases this
    exact hb'
  have bo : ∀ k b, (hget h k).live → (E.push E1 ks.length nx n2).blk k = some b → E.blk k = some b := fun k b hl hb => by
    obtain ⟨b', o, hb', _⟩ := g.block hl
    have := (pl.blk k b' hb').1
    rw [hb] at this; cases this
    exact hb'
  have apart : ∀ i k b, i ∈ wr → (hget h2 i).live → (∀ i ∈ wr, bk ks ks.length nx i ≠ k) → (hget h k).live → E1.blk i = some b → E.blk k = some b → False := by
    intro i k b hi hl hk hl' hbi hbk
    have hlt' : b < w.heap.size := g.lt hl' hbk
    rcases hwr with hwr | ⟨hkp, hge⟩
    · rcases f1.own i b hl hbi with h1 | ⟨k2, hk2, hl2, hb2⟩
      · exact absurd hlt' (Nat.not_lt.2 h1)
      · obtain ⟨j, hj, hjk⟩ := vis k k2 b hl' hbk hk2 hl2 hb2
        exact hk j (hwr j hj) (bk_old hjk)
    · exact absurd hlt' (Nat.not_lt.2 (hkp.key i b (hge i hi) hbi))
  have live : ∀ k, (hget (backH ks ks.length nx h h2 wr) k).live → (∃ i, i ∈ wr ∧ bk ks ks.length nx i = k ∧ (hget h2 i).live) ∨ ((∀ i ∈ wr, bk ks ks.length nx i ≠ k) ∧ (hget h k).live) := fun k hk => by
    rcases split k with ⟨i, hi, rfl⟩ | hno
    · rw [getW i hi] at hk
      exact .inl ⟨i, hi, rfl, mapO_live.1 hk⟩
    · rw [getN k hno] at hk
      exact .inr ⟨hno, hk⟩
  refine ⟨⟨?_, ?_, ?_, g1.mem, ?_⟩, ⟨?_, ?_, ?_, ?_, f1.os.trans f.os, f1.tape.trans f.tape, f1.output.trans f.output⟩, ?_⟩
  · intro k
    rcases split k with ⟨i, hi, rfl⟩ | hno
    · rw [getW i hi]
      exact (g1.holds i).map pm rfl
    · rw [getN k hno]
      cases hq : hget h k with
      | none => trivial
      | _ =>
        rw [← hq]
        exact (g.holds k).sub pl.sub fun b hb => hun k hno b (by rw [hq]; trivial) hb
  · intro k k' b hl hl' hbk hbk'
    rcases live k hl with ⟨i, i1, rfl, i2⟩ | ⟨n1, l1⟩ <;> rcases live k' hl' with ⟨j, j1, rfl, j2⟩ | ⟨n2', l2⟩
    · have := g1.inj i j b i2 j2 (bw i b i2 hbk) (bw j b j2 hbk')
      rw [this]
    · exact (apart i k' b i1 i2 n2' l2 (bw i b i2 hbk) (bo k' b l2 hbk')).elim
    · exact (apart j k b j1 j2 n1 l1 (bw j b j2 hbk') (bo k b l1 hbk)).elim
    · exact g.inj k k' b l1 l2 (bo k b l1 hbk) (bo k' b l2 hbk')
  · intro k b hl hbk
    rcases live k hl with ⟨i, i1, rfl, i2⟩ | ⟨n1, l1⟩
    · exact g1.imm i b i2 (bw i b i2 hbk)
    · have hb0 := bo k b l1 hbk
      have hlt' : b < w.heap.size := g.lt l1 hb0
      have hm0 := g.imm k b l1 hb0
      cases hm' : E1.mem b with
      | none => exact hm'
      | some m =>
        rcases hwr with hwr | ⟨hkp, _⟩
        · rcases f1.memNew b m hm' with h1 | h1 | ⟨k2, hk2, hl2, hb2⟩
          · have h1 : E.mem b = some m := h1
            rw [hm0] at h1; cases h1
          · exact absurd hlt' (Nat.not_lt.2 h1)
          · obtain ⟨j, hj, hjk⟩ := vis k k2 b l1 hb0 hk2 hl2 hb2
            exact (n1 j (hwr j hj) (bk_old hjk)).elim
        · rcases hkp.mem b m hm' with h1 | h1
          · have h1 : E.mem b = some m := h1
            rw [hm0] at h1; cases h1
          · exact absurd hlt' (Nat.not_lt.2 h1)
  · intro k hk
    have : ¬ (nx ≤ k ∧ k < nx + (n2 - ks.length)) := by omega
    simp only [Env.push, this, if_false]
    exact g.fresh k (by omega)
  · exact Nat.le_trans f.size f1.size
  · intro b hb hnw
    have hnv : ¬ (Fr.pull E w h ks).wr b := by
      rintro ⟨k2, hk2, hl2, hb2⟩
      rcases f.own k2 b hl2 hb2 with h1 | h1
      · omega
      · exact hnw h1
    exact (f1.old b (Nat.lt_of_lt_of_le hb f.size) hnv).trans (f.old b hb hnw)
  · intro k b hl hbk
    rcases live k hl with ⟨i, i1, rfl, i2⟩ | ⟨n1, l1⟩
    · rcases f1.own i b i2 (bw i b i2 hbk) with h1 | ⟨k2, hk2, hl2, hb2⟩
      · exact .inl (Nat.le_trans f.size h1)
      · exact f.own k2 b hl2 hb2
    · exact f.own k b l1 (bo k b l1 hbk)
  · intro b m hm'
    rcases f1.memNew b m hm' with h1 | h1 | ⟨k2, hk2, hl2, hb2⟩
    · exact f.memNew b m h1
    · exact .inr (.inl (Nat.le_trans f.size h1))
    · exact .inr (f.own k2 b hl2 hb2)
  · cases ro with
    | false => exact .inl rfl
    | true =>
      have hkp := hro rfl
      refine .inr ⟨hkp.old, fun k b hk hbk => ?_, hkp.mem⟩
      by_cases hin : nx ≤ k ∧ k < nx + (n2 - ks.length)
      · simp only [Env.push, hin, and_self, if_true] at hbk
        exact hkp.key _ b (by omega) hbk
      · simp only [Env.push, hin, if_false] at hbk
        rw [(g.fresh k hk).1] at hbk; cases hbk

theorem mkOrc_ok {ro : Bool} {f : FuncId} {spec : Orc} (hs : OrcOk P ro f spec) : OrcOk P ro f (mkOrc ro spec) := by
  refine ⟨fun g hg hl as h nx k => ?_, fun as h nx v h' nx' H => ?_⟩
  · unfold mkOrc mkOrcK
    refine (hcond g _ _ _).trans ?_
    congr 1
    · rw [hs.hom g hg hl]
      congr 1
      funext v h2 n2
      refine (hcond g _ _ _).trans ?_
      congr 1
      exact hg _
    · exact hg _
  · unfold mkOrc at H
    have hn : ((reach 40 h [] (as.flatMap keysV)).reverse).Nodup := by
      unfold List.Nodup
      rw [List.pairwise_reverse]
      exact (reach_nodup _ _ _ _ List.nodup_nil).imp fun h => h.symm
    generalize (reach 40 h [] (as.flatMap keysV)).reverse = ks at hn H
    unfold mkOrcK at H
    cases hk : (ks.all fun k => Nat.blt k nx) with
    | false => rw [hk] at H; cases H
    | true =>
      rw [hk] at H
      have hlt : ∀ k ∈ ks, k < nx := fun k hk' => bltN (List.all_eq_true.1 hk k hk')
      simp only [cond_true] at H
      let g : T → T := fun t => match t with
        | .fail s => .fail s
        | .done v h2 n2 => cond (Nat.ble ks.length n2) (T.done (mapV (fun i => some (bk ks ks.length nx i)) v) (backH ks ks.length nx h h2 (wrR ro ks.length h2)) (nx + (n2 - ks.length))) (.fail "oracle: keys")
        | .leaf _ _ => .fail "leaf"
      have hh := hs.hom g (fun _ => rfl) (fun _ _ => rfl) (as.map (mapV (pos ks))) (canonH (pos ks) h 0 ks) ks.length T.done
      have H' : g (spec (as.map (mapV (pos ks))) (canonH (pos ks) h 0 ks) ks.length T.fail T.done) = T.done v h' nx' := hh.trans H
      cases hq : spec (as.map (mapV (pos ks))) (canonH (pos ks) h 0 ks) ks.length T.fail T.done with
      | fail s => rw [hq] at H'; cases H'
      | leaf t s => rw [hq] at H'; cases H'
      | done v2 h2 n2 =>
        rw [hq] at H'
        simp only [g] at H'
        cases hle : Nat.ble ks.length n2 with
        | false => rw [hle] at H'; cases H'
        | true =>
          rw [hle] at H'
          simp only [cond_true, T.done.injEq] at H'
          obtain ⟨rfl, rfl, rfl⟩ := H'
          obtain ⟨q1, q2⟩ := hs.sound _ _ _ _ _ _ hq
          refine ⟨by omega, fun E F w vals ha gd fd => ?_⟩
          obtain ⟨g0, f0⟩ := pull_good gd hn
          have ha' : ArgsRel (E.pull ks) (as.map (mapV (pos ks))) vals := by
            refine ⟨by simpa using ha.1, fun j a u hj hu => ?_⟩
            simp only [List.getElem?_map, Option.map_eq_some_iff] at hj
            obtain ⟨a', h1, rfl⟩ := hj
            exact (ha.2 j a' u h1 hu).map (pull_map E ks)
          have post : ∀ u w', Behind (E.pull ks) (Fr.pull E w h ks) ks.length w (!ro) v2 h2 n2 u w' → Behind E F nx w (!ro) (mapV (fun i => some (bk ks ks.length nx i)) v2) (backH ks ks.length nx h h2 (wrR ro ks.length h2)) (nx + (n2 - ks.length)) u w' := by
            rintro u w' ⟨E1, b1, b2, b3, b4, b5⟩
            obtain ⟨pl, pm⟩ := push_facts gd b1 b3
            have hkr : ro = true → Kept (E.pull ks) E1 ks.length w w' := fun e => b5.resolve_left (by rw [e]; simp)
            have hwr : (∀ i, i < ks.length → i ∈ wrR ro ks.length h2) ∨ (Kept (E.pull ks) E1 ks.length w w' ∧ ∀ i ∈ wrR ro ks.length h2, ks.length ≤ i) := by
              cases hro : ro with
              | false => exact .inl fun i hi => by simp [wrR, hi]
              | true => exact .inr ⟨hkr hro, fun i hi => by
                  simp only [wrR, cond_true, List.mem_filter] at hi
                  exact bleN hi.2⟩
            obtain ⟨c1, c2, c3⟩ := push_step gd fd hn hlt b1 b3 b4 hwr hkr
            exact ⟨_, pl, b2.map pm, c1, c2, c3⟩
          rcases q2 (E.pull ks) (Fr.pull E w h ks) w vals ha' g0 f0 with ⟨r1, r2⟩ | ⟨u, w', r1, r2⟩
          · refine .inl ⟨r1, r2.mono ?_⟩
            rintro e w' ⟨u, rfl, hu⟩
            exact ⟨u, rfl, post u w' hu⟩
          · exact .inr ⟨u, w', r1, post u w' r2⟩
end
end Go.Ab

/- The abstract machine: outcomes and loops' heads by other names. Definitions alone. -/
namespace Go.Ab

/-- What is not alive is forgotten. -/
def killT : List Bool → List AV → List AV
  | b :: bs, v :: vs => cond b v .any :: killT bs vs
  | [], _ :: vs => .any :: killT [] vs
  | _, [] => []
def killSt (live : List Bool) (s : St) : St := ⟨killT live s.tmps, s.heap, s.next⟩

/-! ### Outcomes and loop heads by other names -/

/-- The places of a list, of which some are alive. -/
def liveB (n : Nat) (l : List Nat) : List Bool := (List.range n).map fun i => l.any (Nat.beq i)

/-- A list of n values, of which some are known. -/
def spGet : List (Nat × AV) → Nat → AV
  | [], _ => .any
  | (j, v) :: l, i => cond (Nat.beq j i) v (spGet l i)
def sp (n : Nat) (l : List (Nat × AV)) : List AV := (List.range n).map (spGet l)

/-- The values that are alive. -/
def liveV : List Bool → List AV → List AV
  | b :: bs, v :: vs => cond b (v :: liveV bs vs) (liveV bs vs)
  | _, _ => []

/-- What values name. -/
def keysT : AV → List Nat
  | .tup vs => go vs
  | v => keysV v
where go : List AV → List Nat
  | [] => []
  | v :: vs => keysT v ++ go vs

/-- The names of a state: the first ones, and all that these and the values lead to. -/
def ksOf (n0 : Nat) (live : List Bool) (s : St) : List Nat :=
  (reach 2000 s.heap (List.range n0).reverse ((List.range n0).flatMap (fun k => keysO (hget s.heap k)) ++ (liveV live s.tmps).flatMap keysT)).reverse

/-- What is not changed any more, behind an outcome: what is new and of numbers alone; then rows of cells that name none of these. -/
def intsNew (n0 : Nat) : Heap → List Nat
  | [] => []
  | (k, o) :: h => cond (Nat.ble n0 k) (match o with
      | .arri _ _ _ | .bufi _ _ _ => k :: intsNew n0 h
      | _ => intsNew n0 h) (intsNew n0 h)

structure Pol where
  live : List Nat
  /-- what is not changed any more -/
  zs : Heap → List Nat

def canon1 (n0 : Nat) (live : List Bool) (s : St) (k : St → T) : T := cond (okKs n0 (ksOf n0 live s)) (k (canonSt live (ksOf n0 live s) s)) (.fail "names")
def canon (n0 : Nat) (live : List Bool) (zs : List Nat) (s : St) (k : St → T) : T :=
  okZsK zs (killSt live s) (canon1 n0 live (fzs zs (killSt live s)) k) (.fail "what is not changed any more")

/-- An outcome by other names. -/
def kdC (n0 : Nat) (zs : AV → Heap → List Nat) (v : AV) (h : Heap) (nx : Nat) : T :=
  canon n0 [true] (zs v h) ⟨[v], h, nx⟩ fun s => match s.tmps with
    | [v] => .done v s.heap s.next
    | _ => .fail "outcome"

def findPol : List (Nat × Pol) → Nat → Option Pol
  | [], _ => none
  | (j, p) :: l, r => cond (Nat.beq j r) (some p) (findPol l r)

/-- A loop's head by other names. -/
def lfC (n0 : Nat) (ps : List (Nat × Pol)) (todo : List Item) (s : St) : T :=
  match todo with
  | .code b :: _ => match findPol ps (ridC b) with
    | some p => canon n0 (liveB s.tmps.length p.live) (p.zs s.heap) s fun s' => .leaf todo s'
    | none => .fail "loop: unknown"
  | _ => .fail "loop: no code"

/-- A context that gives loops' heads other names. -/
def Cx.at (cx : Cx) (n0 : Nat) (ps : List (Nat × Pol)) : Cx := { cx with lf := lfC n0 ps }
end Go.Ab

/- The abstract machine: what says less. -/
namespace Go.Ab
section
variable {P : Program}

/-! ### What says less -/

def CLe (a b : AC) : Prop := ∀ E v, CRel E a v → CRel E b v
def VLe (a b : AV) : Prop := ∀ E v, VRel E a v → VRel E b v
/-- An object says less than another one. -/
def OLe (o o' : AObj) : Prop := (o'.live → o.live) ∧ ∀ E w k, Holds E w k o → Holds E w k o'
def HLe (h h' : Heap) : Prop := ∀ k, OLe (hget h k) (hget h' k)
structure StLe (s s' : St) : Prop where
  len : s'.tmps.length = s.tmps.length
  tmps : ∀ d, VLe (lget (.tup []) s.tmps d) (lget (.tup []) s'.tmps d)
  heap : HLe s.heap s'.heap
  next : s'.next = s.next

theorem CLe.refl (a : AC) : CLe a a := fun _ _ h => h
theorem VLe.refl (a : AV) : VLe a a := fun _ _ h => h
theorem OLe.refl (o : AObj) : OLe o o := ⟨id, fun _ _ _ h => h⟩
theorem HLe.refl (h : Heap) : HLe h h := fun _ => .refl _
theorem StLe.refl (s : St) : StLe s s := ⟨rfl, fun _ => .refl _, .refl _, rfl⟩
theorem VLe.any (a : AV) : VLe a .any := fun _ v _ => .any v
theorem CLe.top (a : AC) : CLe a .top := fun _ v h => .top v h.one'
theorem OLe.none (o : AObj) : OLe o .none := ⟨fun h => h.elim, fun _ _ _ _ => trivial⟩
theorem CLe.nils (kd : IntKind) : CLe .nils (.imi kd 0 []) := fun _ _ h => by cases h; exact .imi kd 0 [] none 0 rfl (Nat.le_refl _) (fun _ => rfl) (.inl rfl)
theorem CLe.emp (kd : IntKind) : CLe .emp (.imi kd 0 []) := fun _ _ h => by cases h with | emp a => exact .imi kd 0 [] a 0 rfl (Nat.le_refl _) (fun _ => rfl) (.inl rfl)
theorem CLe.mt (kd : IntKind) : CLe .mt (.imi kd 0 []) := fun _ _ h => by cases h with | mt a c => exact .imi kd 0 [] _ c rfl (Nat.zero_le _) (fun h => by cases h) (.inl rfl)
theorem CLe.nilsc (sz : Nat) : CLe .nils (.imc sz 0 []) := fun _ _ h => by cases h; exact .imc0 sz none 0
theorem CLe.empc (sz : Nat) : CLe .emp (.imc sz 0 []) := fun _ _ h => by cases h with | emp a => exact .imc0 sz a 0
theorem VLe.one {a b : AC} (h : CLe a b) : VLe (.one a) (.one b) := fun E v hv => by cases hv with | one _ _ hc => exact .one _ _ (h E v hc)

/-- Cells that say less. -/
inductive CsLe : List AC → List AC → Prop
  | nil : CsLe [] []
  | cons {a b : AC} {as bs : List AC} (h : CLe a b) (t : CsLe as bs) : CsLe (a :: as) (b :: bs)

theorem CsLe.refl : ∀ (l : List AC), CsLe l l
  | [] => .nil
  | a :: l => .cons (.refl a) (.refl l)
theorem CsLe.length {l l' : List AC} (h : CsLe l l') : l'.length = l.length := by induction h with | nil => rfl | cons _ _ ih => simp [ih]
theorem CsLe.get {l l' : List AC} (h : CsLe l l') : ∀ (j : Nat) (b : AC), l'[j]? = some b → ∃ a, l[j]? = some a ∧ CLe a b := by
  induction h with
  | nil => intro j b hj; simp at hj
  | cons h t ih =>
    intro j b hj
    cases j with
    | zero => simp at hj; subst hj; exact ⟨_, rfl, h⟩
    | succ j => simpa using ih j b (by simpa using hj)
theorem CsLe.cells {l l' : List AC} (h : CsLe l l') {E : Env} {m : Array Value} {o : Nat} (hc : Cells E l m o) : Cells E l' m o := fun j b hj => by
  obtain ⟨a, h1, h2⟩ := h.get j b hj
  obtain ⟨u, h3, h4⟩ := hc j a h1
  exact ⟨u, h3, h2 E u h4⟩
theorem VLe.agg {l l' : List AC} (h : CsLe l l') : VLe (.agg l) (.agg l') := fun E v hv => by
  cases hv with | agg _ vs hn hc => exact .agg _ vs (by rw [hn, h.length]) (h.cells hc)
theorem OLe.arrc {n : Nat} {l l' : List AC} (h : CsLe l l') : OLe (.arrc n l) (.arrc n l') := ⟨id, fun E w k ⟨b, c, t, fr, h1, h2, h3, h4, h5, h6, h7, h8⟩ => ⟨b, c, t, fr, h1, h2, h3, by rw [h.length]; exact h4, h5, h6, h7, h.cells h8⟩⟩
theorem OLe.bufc {sz n : Nat} {l l' : List AC} (h : CsLe l l') (hk : l'.all nokeys = true) : OLe (.bufc sz n l) (.bufc sz n l') := ⟨id, fun E w k ⟨b, c, t, fr, h1, h2, h3, h4, h5, h6, h7, _⟩ => ⟨b, c, t, fr, h1, h2, by rw [h.length]; exact h3, h4, h5, h6, h.cells h7, NK.of_all hk⟩⟩

inductive VsLe : List AV → List AV → Prop
  | nil : VsLe [] []
  | cons {a b : AV} {as bs : List AV} (h : VLe a b) (t : VsLe as bs) : VsLe (a :: as) (b :: bs)
theorem VsLe.refl : ∀ (l : List AV), VsLe l l
  | [] => .nil
  | a :: l => .cons (.refl a) (.refl l)
theorem VsLe.length {l l' : List AV} (h : VsLe l l') : l'.length = l.length := by induction h with | nil => rfl | cons _ _ ih => simp [ih]
theorem VsLe.get {l l' : List AV} (h : VsLe l l') : ∀ (j : Nat) (b : AV), l'[j]? = some b → ∃ a, l[j]? = some a ∧ VLe a b := by
  induction h with
  | nil => intro j b hj; simp at hj
  | cons h t ih =>
    intro j b hj
    cases j with
    | zero => simp at hj; subst hj; exact ⟨_, rfl, h⟩
    | succ j => simpa using ih j b (by simpa using hj)
theorem VsLe.lget {l l' : List AV} (h : VsLe l l') : ∀ (d : Nat), VLe (lget (.tup []) l d) (lget (.tup []) l' d) := by
  induction h with
  | nil => intro d; exact .refl _
  | cons h t ih =>
    intro d
    cases d with
    | zero => exact h
    | succ d => exact ih d
theorem VLe.tup {l l' : List AV} (h : VsLe l l') : VLe (.tup l) (.tup l') := fun E v hv => by
  cases hv with | tup _ vs hn hc =>
  refine .tup _ vs (by rw [hn, h.length]) fun j b u hb hu => ?_
  obtain ⟨a, h1, h2⟩ := h.get j b hb
  exact h2 E u (hc j a u h1 hu)
theorem HLe.nil : HLe [] [] := .refl _
theorem HLe.cons {k : Nat} {o o' : AObj} {h h' : Heap} (ho : OLe o o') (hh : HLe h h') : HLe ((k, o) :: h) ((k, o') :: h') := by
  intro j
  simp only [hget]
  cases Nat.beq k j with
  | true => exact ho
  | false => exact hh j
/-- A name that is not spoken of any more. -/
theorem HLe.drop {k : Nat} {o : AObj} {h h' : Heap} (hh : HLe h h') (hk : hget h' k = .none) : HLe ((k, o) :: h) h' := by
  intro j
  simp only [hget]
  cases hq : Nat.beq k j with
  | true => have := beqN hq; subst this; rw [hk]; exact .none _
  | false => exact hh j
theorem StLe.mk' {ts ts' : List AV} {h h' : Heap} {n : Nat} (ht : VsLe ts ts') (hh : HLe h h') : StLe ⟨ts, h, n⟩ ⟨ts', h', n⟩ := ⟨ht.length, ht.lget, hh, rfl⟩

theorem Good.le {E : Env} {h h' : Heap} {nx : Nat} {w : World} {F : Fr} (g : Good E h nx w) (f : Framed F E h w) (hh : HLe h h') : Good E h' nx w ∧ Framed F E h' w :=
  ⟨⟨fun k => (hh k).2 E w k (g.holds k), fun k k' b hl hl' => g.inj k k' b ((hh k).1 hl) ((hh k').1 hl'), fun k b hl => g.imm k b ((hh k).1 hl), g.mem, g.fresh⟩,
   ⟨f.size, f.old, fun k b hl => f.own k b ((hh k).1 hl), f.memNew, f.os, f.tape, f.output⟩⟩

theorem Rep.le {E : Env} {F : Fr} {s s' : St} {a : Act} {w : World} (r : Rep E F s a w) (h : StLe s s') : Rep E F s' a w := by
  obtain ⟨g, f⟩ := r.good.le r.framed h.heap
  exact ⟨⟨by rw [h.len]; exact r.tmps.size, fun d => h.tmps d E _ (r.tmps.get d)⟩, by rw [h.next]; exact g, f, r.defers⟩

theorem killT_len : ∀ (bs : List Bool) (vs : List AV), (killT bs vs).length = vs.length
  | b :: bs, v :: vs => by simp [killT, killT_len bs vs]
  | [], v :: vs => by simp [killT, killT_len [] vs]
  | [], [] => rfl
  | _ :: _, [] => rfl
theorem killT_get : ∀ (bs : List Bool) (vs : List AV) (d : Nat), lget (.tup []) (killT bs vs) d = .any ∨ lget (.tup []) (killT bs vs) d = lget (.tup []) vs d
  | b :: bs, v :: vs, 0 => by cases b <;> simp [killT, lget]
  | [], v :: vs, 0 => by simp [killT, lget]
  | b :: bs, v :: vs, d + 1 => by simpa [killT, lget] using killT_get bs vs d
  | [], v :: vs, d + 1 => by simpa [killT, lget] using killT_get [] vs d
  | [], [], d => .inr (by simp [killT])
  | _ :: _, [], d => .inr (by simp [killT])

theorem Rep.kill {E : Env} {F : Fr} {s : St} {a : Act} {w : World} (r : Rep E F s a w) (live : List Bool) : Rep E F (killSt live s) a w :=
  ⟨⟨by rw [r.tmps.size]; exact (killT_len _ _).symm, fun d => by
    rcases killT_get live s.tmps d with h | h
    · show VRel _ (lget (.tup []) (killT live s.tmps) d) _
      rw [h]; exact .any _
    · show VRel _ (lget (.tup []) (killT live s.tmps) d) _
      rw [h]; exact r.tmps.get d⟩, r.good, r.framed, r.defers⟩
end
end Go.Ab

/- The abstract machine: loops, and functions as a whole. -/
namespace Go.Ab
section
variable {P : Program}

theorem canonT_len (φ : Nat → Option Nat) : ∀ (bs : List Bool) (vs : List AV), (canonT φ bs vs).length = vs.length
  | b :: bs, v :: vs => by simp [canonT, canonT_len φ bs vs]
  | [], v :: vs => by simp [canonT, canonT_len φ [] vs]
  | [], [] => rfl
  | _ :: _, [] => rfl

theorem canonT_get (φ : Nat → Option Nat) : ∀ (bs : List Bool) (vs : List AV) (d : Nat), lget (.tup []) (canonT φ bs vs) d = .any ∨ lget (.tup []) (canonT φ bs vs) d = mapV φ (lget (.tup []) vs d)
  | b :: bs, v :: vs, 0 => by cases b <;> simp [canonT, lget]
  | [], v :: vs, 0 => by simp [canonT, lget]
  | b :: bs, v :: vs, d + 1 => by simpa [canonT, lget] using canonT_get φ bs vs d
  | [], v :: vs, d + 1 => by simpa [canonT, lget] using canonT_get φ [] vs d
  | [], [], d => .inr (by simp [canonT, lget, mapV, mapV.go])
  | _ :: _, [], d => .inr (by simp [canonT, lget, mapV, mapV.go])

theorem nodupB_spec : ∀ (ks : List Nat), okKs.nodupB ks = true → ks.Nodup
  | [], _ => List.nodup_nil
  | k :: ks, h => by
    simp only [okKs.nodupB, Bool.and_eq_true] at h
    refine List.nodup_cons.2 ⟨fun hm => ?_, nodupB_spec ks h.2⟩
    rw [has_iff.2 hm] at h
    cases h.1

theorem okKs_spec {n0 : Nat} {ks : List Nat} (h : okKs n0 ks = true) : n0 ≤ ks.length ∧ (∀ j, j < n0 → ks[j]? = some j) ∧ ks.Nodup := by
  simp only [okKs, Bool.and_eq_true] at h
  obtain ⟨⟨h1, h2⟩, h3⟩ := h
  have h1 := bleN h1
  refine ⟨h1, fun j hj => ?_, nodupB_spec ks h3⟩
  have := List.all_eq_true.1 h2 j (by simpa using hj)
  have e := Nat.eq_of_beq_eq_true this
  have hg := List.getElem?_eq_getElem (show j < ks.length by omega)
  rw [hg]
  simp only [List.getD_eq_getElem?_getD, hg, Option.getD_some] at e
  rw [e]

/-- The names of a list, with the first ones as they were. -/
def Env.ren (E : Env) (ks : List Nat) : Env := { E.pull ks with lo := E.lo }

theorem ren_map (E : Env) (ks : List Nat) : KeyMap (pos ks) E (E.ren ks) := ⟨(pull_map E ks).blk, (pull_map E ks).mem⟩

theorem ren_le {E0 E : Env} {ks : List Nat} {n0 : Nat} (hk : okKs n0 ks = true) (h0 : ∀ k, n0 ≤ k → E0.blk k = none ∧ E0.lo ≤ k) (hE : E0.le E) : E0.le (E.ren ks) := by
  obtain ⟨k1, k2, k3⟩ := okKs_spec hk
  refine ⟨fun k b hb => ?_, fun b m hm => hE.mem b m hm, hE.lo, fun k b hb => ?_⟩
  · have hk0 : k < n0 := by
      rcases Nat.lt_or_ge k n0 with h | h
      · exact h
      · rw [(h0 k h).1] at hb; cases hb
    obtain ⟨e1, e2, e3⟩ := hE.blk k b hb
    have hp : pos ks k = some k := pos_of k3 (k2 k hk0)
    obtain ⟨f1, f2, f3⟩ := (ren_map E ks).blk k k b e1 hp
    exact ⟨f1, f2.trans e2, f3.trans e3⟩
  · obtain ⟨k', q1, q2⟩ := pull_blk (E := E) (ks := ks) (i := k) (b := b) hb
    by_cases hk0 : k < n0
    · rw [k2 k hk0] at q1; cases q1
      exact hE.new k b q2
    · exact .inr (h0 k (by omega)).2

theorem ren_good {E : Env} {F : Fr} {h : Heap} {nx : Nat} {w : World} {ks : List Nat} {n0 : Nat} (hk : okKs n0 ks = true) (hlo : E.lo ≤ n0) (g : Good E h nx w) (f : Framed F E h w) :
    Good (E.ren ks) (canonH (pos ks) h 0 ks) ks.length w ∧ Framed F (E.ren ks) (canonH (pos ks) h 0 ks) w := by
  obtain ⟨k1, k2, k3⟩ := okKs_spec hk
  obtain ⟨g1, f1⟩ := pull_good g k3
  have hh : ∀ i, Holds (E.pull ks) w i (hget (canonH (pos ks) h 0 ks) i) → Holds (E.ren ks) w i (hget (canonH (pos ks) h 0 ks) i) := fun i hi => Holds.sub (E := E.pull ks) (E' := E.ren ks) ⟨fun k b h => ⟨h, rfl, rfl⟩, fun _ _ h => h⟩ (fun _ _ => rfl) hi
  refine ⟨⟨fun i => hh i (g1.holds i), g1.inj, g1.imm, g1.mem, fun k hk' => ⟨(g1.fresh k hk').1, ?_⟩⟩, ⟨f.size, f.old, fun i b hl hb => ?_, f.memNew, f.os, f.tape, f.output⟩⟩
  · show E.lo ≤ k
    omega
  · rcases f1.own i b hl hb with h1 | ⟨k, h1, h2, h3⟩
    · have := g1.lt hl hb
      exact absurd this (Nat.not_lt.2 h1)
    · exact f.own k b h2 h3

theorem canonSt_ok {E0 E : Env} {F : Fr} {s : St} {a : Act} {w : World} {ks : List Nat} {live : List Bool} {n0 : Nat} (hk : okKs n0 ks = true) (h0 : ∀ k, n0 ≤ k → E0.blk k = none ∧ E0.lo ≤ k) (hE : E0.le E) (r : Rep E F s a w) :
    E0.le (E.ren ks) ∧ Rep (E.ren ks) F (canonSt live ks s) a w := by
  have hlo : E.lo ≤ n0 := by rw [hE.lo]; exact (h0 n0 (Nat.le_refl _)).2
  obtain ⟨g, f⟩ := ren_good hk hlo r.good r.framed
  refine ⟨ren_le hk h0 hE, ⟨by rw [r.tmps.size]; exact (canonT_len _ _ _).symm, fun d => ?_⟩, g, f, r.defers⟩
  rcases canonT_get (pos ks) live s.tmps d with h | h
  · show VRel _ (lget (.tup []) (canonT (pos ks) live s.tmps) d) _
    rw [h]; exact .any _
  · show VRel _ (lget (.tup []) (canonT (pos ks) live s.tmps) d) _
    rw [h]; exact (r.tmps.get d).map (ren_map E ks)

/-- What a state comes to by other names, with some objects that are not changed any more, and with less said. -/
def Comes (n0 : Nat) (s s' : St) : Prop := ∃ zs live ks, okZs zs (killSt live s) = true ∧ okKs n0 ks = true ∧ StLe (canonSt live ks (fzs zs (killSt live s))) s'

/-- What a run of a function with n0 objects may end in: the outcome, by other names. -/
def Ends (n0 : Nat) (v0 : AV) (h0 : Heap) (m0 : Nat) (v : AV) (h : Heap) (nx : Nat) : Prop := Comes n0 ⟨[v], h, nx⟩ ⟨[v0], h0, m0⟩

theorem comes_ok {E0 E : Env} {F : Fr} {s s' : St} {a : Act} {w : World} {n0 : Nat} (h : Comes n0 s s') (h0 : ∀ k, n0 ≤ k → E0.blk k = none ∧ E0.lo ≤ k) (hE : E0.le E) (r : Rep E F s a w) :
    ∃ E', E0.le E' ∧ Rep E' F s' a w := by
  obtain ⟨zs, live, ks, hz, hk, hle⟩ := h
  obtain ⟨E1, h1, r1⟩ := Rep.fzs zs (r.kill live) hz
  obtain ⟨h2, r2⟩ := canonSt_ok (live := live) hk h0 (Env.le_trans hE h1) r1
  exact ⟨_, h2, r2.le hle⟩

theorem canon_ok {n0 : Nat} {live : List Bool} {s : St} {zs : List Nat} {k : St → T} {Φ : Post} (H : TOk Φ (canon n0 live zs s k)) : ∃ s', Comes n0 s s' ∧ TOk Φ (k s') := by
  unfold canon at H
  rw [okZsK_eq] at H
  obtain ⟨h0, H2⟩ := cond_ok H
  obtain ⟨h1, h2⟩ := cond_ok H2
  exact ⟨_, ⟨zs, live, _, h0, h1, StLe.refl _⟩, h2⟩

theorem kdC_ok {n0 : Nat} {zs : AV → Heap → List Nat} {v : AV} {h : Heap} {nx : Nat} {Φ : Post} (H : TOk Φ (kdC n0 zs v h nx)) : ∃ v' h' nx', Comes n0 ⟨[v], h, nx⟩ ⟨[v'], h', nx'⟩ ∧ Φ.d v' h' nx' := by
  obtain ⟨⟨ts, h', nx'⟩, h1, h2⟩ := canon_ok H
  simp only at h2
  split at h2
  · next v' => exact ⟨v', h', nx', h1, h2⟩
  · exact h2.elim

theorem lfC_ok {n0 : Nat} {ps : List (Nat × Pol)} {todo : List Item} {s : St} {Φ : Post} (H : TOk Φ (lfC n0 ps todo s)) : ∃ s', Comes n0 s s' ∧ Φ.l todo s' := by
  unfold lfC at H
  split at H
  · split at H
    · obtain ⟨s', h1, h2⟩ := canon_ok H
      exact ⟨s', h1, h2⟩
    · exact H.elim
  · exact H.elim

theorem Comes.le {n0 : Nat} {s s' s'' : St} (h : Comes n0 s s') (h' : StLe s' s'') : Comes n0 s s'' := by
  obtain ⟨zs, live, ks, h0, h1, h2⟩ := h
  exact ⟨zs, live, ks, h0, h1, ⟨h'.len.trans h2.len, fun d E v hv => h'.tmps d E v (h2.tmps d E v hv), fun k => ⟨fun hl => (h2.heap k).1 ((h'.heap k).1 hl), fun E w k' hh => (h'.heap k).2 E w k' ((h2.heap k).2 E w k' hh)⟩, h'.next.trans h2.next⟩⟩

theorem cx_at {cx : Cx} (hc : CxOk P cx) (n0 : Nat) (ps : List (Nat × Pol)) : CxOk P (cx.at n0 ps) := ⟨hc.orc, hc.ro, hc.name, hc.orders⟩

/-- What comes of a function at arguments: an outcome, by other names; or a loop's head. -/
def StepTo (D : AV → Heap → Nat → Prop) {I : Type} (C : I → List Item × St) (μ : I → Nat) (m : Nat) : Post :=
  { d := D, l := fun todo s => ∃ j, μ j < m ∧ (C j).1 = todo ∧ StLe s (C j).2 }

/-- What is known of a function at arguments, by names. -/
def FnSpec (P : Program) (f : FuncId) (as : List AV) (h : Heap) (nx : Nat) (D : AV → Heap → Nat → Prop) : Prop :=
  ∀ (E : Env) (F : Fr) (w : World) (vals : Array Value), ArgsRel E as vals → Good E h nx w → Framed F E h w →
    FnOk P f vals w fun u w' => ∃ v h' nx', D v h' nx' ∧ Behind E F nx w true v h' nx' u w'

theorem behind_of {E E' : Env} {F : Fr} {h : Heap} {nx : Nat} {w w0 : World} (g : Good E h nx w0) {v v0 : AV} {h' h0 : Heap} {nx' m0 : Nat} {u : Value} {w' : World} (he : Comes nx ⟨[v], h', nx'⟩ ⟨[v0], h0, m0⟩)
    (b1 : E.le E') (b2 : VRel E' v u) (b3 : Good E' h' nx' w') (b4 : Framed F E' h' w') : Behind E F nx w true v0 h0 m0 u w' := by
  have r : Rep E' F ⟨[v], h', nx'⟩ { tmps := #[u], defers := [] } w' := ⟨⟨rfl, fun d => by
    cases d with
    | zero => exact b2
    | succ d => exact undef_ok E'⟩, b3, b4, rfl⟩
  obtain ⟨E2, h2, r2⟩ := comes_ok he g.fresh b1 r
  exact ⟨E2, h2, r2.tmps.get 0, r2.good, r2.framed, .inl rfl⟩

/-- A function without a loop of its own. -/
theorem spec_run {cx : Cx} (hc : CxOk P cx) (n u : Nat) (zs : AV → Heap → List Nat) {f : FuncId} {as : List AV} {h : Heap} {nx : Nat} {D : AV → Heap → Nat → Prop}
    (H : TOk { d := D, l := fun _ _ => False } (runK P (cx.at nx []) n u f as h nx (kdC nx zs))) : FnSpec P f as h nx D := by
  intro E F w vals ha g fd
  refine runK_sound (cx_at hc nx []) ha g fd H (fun E' v h' nx' x w' hE _ hv g' f' hD => ?_) (fun _ _ _ todo' s' _ _ _ _ _ _ _ _ hl => ?_)
  · obtain ⟨v0, h0, m0, h1, h2⟩ := kdC_ok hD
    exact ⟨v0, h0, m0, h2, behind_of g h1 hE hv g' f'⟩
  · obtain ⟨_, _, h⟩ := lfC_ok (n0 := nx) (ps := []) (todo := todo') (s := s') hl
    exact h.elim

/-- A function with loops. -/
theorem spec_loop {cx : Cx} (hc : CxOk P cx) (n n1 u : Nat) (zs : AV → Heap → List Nat) (ps : List (Nat × Pol)) {f : FuncId} {as : List AV} {h : Heap} {nx m0 : Nat} {I : Type} (C : I → List Item × St) (μ : I → Nat) {D : AV → Heap → Nat → Prop}
    (H : TOk (StepTo D C μ m0) (runK P (cx.at nx ps) n 0 f as h nx (kdC nx zs)))
    (hs : ∀ i, TOk (StepTo D C μ (μ i)) (execL P (cx.at nx ps) n1 u f (C i).1 (C i).2 (kdC nx zs))) : FnSpec P f as h nx D := by
  intro E F w vals ha g fd
  have hd : ∀ E' v h' nx' x w' m, E.le E' → VRel E' v x → Good E' h' nx' w' → Framed F E' h' w' → TOk (StepTo D C μ m) (kdC nx zs v h' nx') → (∃ v h' nx', D v h' nx' ∧ Behind E F nx w true v h' nx' x w') := by
    intro E' v h' nx' x w' m hE hv g' f' hD
    obtain ⟨v0, h0, m0, h1, h2⟩ := kdC_ok hD
    exact ⟨v0, h0, m0, h2, behind_of g h1 hE hv g' f'⟩
  have key : ∀ m i, μ i = m → ∀ (b : Frame) (E1 : Env) (a : Act) (w1 : World), b.fn = f → b.kind = .normal → E.le E1 → Rep E1 F (C i).2 a w1 → Runs P b a (C i).1 w1 (fun u w' => ∃ v h' nx', D v h' nx' ∧ Behind E F nx w true v h' nx' u w') := by
    intro m
    induction m using Nat.strongRecOn with
    | _ m ih =>
      intro i hi b E1 a w1 hbf hbk hE r
      have hsi := hs i
      unfold execL at hsi
      split at hsi
      · next fg hf =>
        refine exec_sound (cx_at hc nx ps) n1 true u fg _ _ _ E F 0 E1 a w1 b _ (kdC nx zs) (by rw [hbf]; exact hf) hbk hE (Nat.zero_le _) r (fun E' v h' nx' x w' q1 _ q3 q4 q5 q6 => hd E' v h' nx' x w' _ q1 q3 q4 q5 q6) ?_ hsi
        rintro E' todo' s' a' w' _ hE' _ r' hl
        obtain ⟨s2, h1, j, j1, j2, j3⟩ := lfC_ok (n0 := nx) (ps := ps) (todo := todo') (s := s') hl
        obtain ⟨E2, hE2, r2⟩ := comes_ok (h1.le j3) g.fresh hE' r'
        rw [← j2]
        exact ih (μ j) (hi ▸ j1) j rfl b E2 a' w' hbf hbk hE2 r2
      · exact hsi.elim
  refine runK_sound (cx_at hc nx ps) ha g fd H (fun E' v h' nx' x w' hE _ hv g' f' hD => hd E' v h' nx' x w' _ hE hv g' f' hD) ?_
  rintro b fn' E' todo' s' a' w' _ hbf hbk hE' _ r' hl
  obtain ⟨s2, h1, j, _, j2, j3⟩ := lfC_ok (n0 := nx) (ps := ps) (todo := todo') (s := s') hl
  obtain ⟨E2, hE2, r2⟩ := comes_ok (h1.le j3) g.fresh hE' r'
  rw [← j2]
  exact key _ j rfl b E2 a' w' hbf hbk hE2 r2

/-- One outcome, of which no more is said than is known. -/
def Out1 (v0 : AV) (h0 : Heap) (m0 : Nat) (v : AV) (h : Heap) (nx : Nat) : Prop := StLe ⟨[v], h, nx⟩ ⟨[v0], h0, m0⟩

theorem Behind.le {E : Env} {F : Fr} {nx : Nat} {w : World} {wb : Bool} {v v0 : AV} {h' h0 : Heap} {nx' m0 : Nat} {u : Value} {w' : World} (b : Behind E F nx w wb v h' nx' u w') (he : Out1 v0 h0 m0 v h' nx') : Behind E F nx w wb v0 h0 m0 u w' := by
  obtain ⟨E', b1, b2, b3, b4, b5⟩ := b
  have e : m0 = nx' := he.next
  subst e
  obtain ⟨g, f⟩ := b3.le b4 he.heap
  exact ⟨E', b1, he.tmps 0 E' u b2, g, f, b5⟩

/-- A function that has one outcome at each argument of a shape: an oracle. -/
def specOf {X : Type} (pat : List AV → Heap → Option X) (m : X → Nat) (ok : X → Bool) (out : X → AV × Heap × Nat) : Orc := fun as h nx fail k =>
  match pat as h with
  | some x => cond (Nat.beq nx (m x) && ok x) (k (out x).1 (out x).2.1 (out x).2.2) (fail "oracle: not so")
  | none => fail "oracle: shape"

theorem ArgsRel.le {E : Env} {as bs : List AV} {vals : Array Value} (h : ArgsRel E as vals) (hle : VsLe as bs) : ArgsRel E bs vals :=
  ⟨h.1.trans hle.length.symm, fun j b u hb hu => by
    obtain ⟨a, h1, h2⟩ := hle.get j b hb
    exact h2 E u (h.2 j a u h1 hu)⟩

theorem specOf_le {f : FuncId} {X : Type} {pat : List AV → Heap → Option X} {m : X → Nat} {ok : X → Bool} {out : X → AV × Heap × Nat} {A : X → List AV} {H : X → Heap} (hp : ∀ as h x, pat as h = some x → VsLe as (A x) ∧ h = H x)
    (hm : ∀ x, ok x = true → m x ≤ (out x).2.2) (hs : ∀ x, ok x = true → FnSpec P f (A x) (H x) (m x) (Out1 (out x).1 (out x).2.1 (out x).2.2)) : OrcOk P false f (specOf pat m ok out) := by
  refine ⟨fun g hg hl as h nx k => ?_, fun as h nx v h' nx' hq => ?_⟩
  · unfold specOf
    split
    · refine (hcond g _ _ _).trans ?_
      congr 1
      exact hg _
    · exact hg _
  · unfold specOf at hq
    split at hq
    · next x hx =>
      cases hc : (Nat.beq nx (m x) && ok x) with
      | false => rw [hc] at hq; cases hq
      | true =>
        rw [hc] at hq
        simp only [cond_true, T.done.injEq] at hq
        obtain ⟨rfl, rfl, rfl⟩ := hq
        simp only [Bool.and_eq_true] at hc
        have e := beqN hc.1
        obtain ⟨hle, rfl⟩ := hp _ _ _ hx
        subst e
        refine ⟨hm x hc.2, fun E F w vals ha0 g fd => ?_⟩
        have ha := ha0.le hle
        have conv : ∀ u w', (∃ v h' nx', Out1 (out x).1 (out x).2.1 (out x).2.2 v h' nx' ∧ Behind E F (m x) w true v h' nx' u w') → Behind E F (m x) w (!false) (out x).1 (out x).2.1 (out x).2.2 u w' := by
          rintro u w' ⟨v, h', nx', he, hb⟩
          exact hb.le he
        rcases hs x hc.2 E F w vals ha g fd with ⟨r1, r2⟩ | ⟨u, w', r1, r2⟩
        · refine .inl ⟨r1, r2.mono ?_⟩
          rintro e w' ⟨u, rfl, hu⟩
          exact ⟨u, rfl, conv u w' hu⟩
        · exact .inr ⟨u, w', r1, conv u w' r2⟩
    · cases hq
theorem specOf_ok {f : FuncId} {X : Type} {pat : List AV → Heap → Option X} {m : X → Nat} {ok : X → Bool} {out : X → AV × Heap × Nat} {A : X → List AV} {H : X → Heap} (hp : ∀ as h x, pat as h = some x → as = A x ∧ h = H x)
    (hm : ∀ x, ok x = true → m x ≤ (out x).2.2) (hs : ∀ x, ok x = true → FnSpec P f (A x) (H x) (m x) (Out1 (out x).1 (out x).2.1 (out x).2.2)) : OrcOk P false f (specOf pat m ok out) :=
  specOf_le (fun as h x hx => by obtain ⟨rfl, h2⟩ := hp as h x hx; exact ⟨VsLe.refl _, h2⟩) hm hs
end
end Go.Ab
