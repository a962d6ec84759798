/-
  A lane as a list of tickets: what its entries, its map and its counts have to do with one another.
-/
import Derived.Test.YtdeonehebbofiaaDoorLane6
namespace Go.Proofs.YtdeonehebbofiaaDoor
open Go.RowKit

/-- The kinds that the map finds. -/
def spc (k : Int) : Bool := fOnce k || k == 3
def cntK (ts : List Tk) (j : Int) : Int := ((ts.countP fun t => t.k == j : Nat) : Int)

structure LaneOk (es : List En) (ms : List ((Int × Int) × Nat)) (c : Nat → Int) (n : Int) (ts : List Tk) : Prop where
  tk : ts = live es
  nn : n = ts.length
  cnt : ∀ j : Nat, j < 8 → c j = cntK ts j
  ok : ∀ t ∈ ts, may t = 0
  wf : ∀ t ∈ ts, t.Wf
  m1 : ∀ p ∈ ms, spc p.1.1 = true ∧ ∃ e ∈ es, e.gone = false ∧ e.b = p.2 ∧ (e.t.k, e.t.s) = p.1
  m2 : ∀ e ∈ es, e.gone = false → spc e.t.k = true → ((e.t.k, e.t.s), e.b) ∈ ms
  len : es.length ≤ 2 * ts.length + 16

theorem may_range {t : Tk} (h : may t = 0) : 1 ≤ t.k ∧ t.k ≤ 7 := by
  unfold may at h
  split at h
  · cases h
  · omega
theorem mem_live {es : List En} {t : Tk} : t ∈ live es ↔ ∃ e ∈ es, e.gone = false ∧ e.t = t := by
  simp [live, List.mem_map, List.mem_filter, and_assoc]

/-- Two pairs of one key are one. -/
theorem key_unique {ms : List ((Int × Int) × Nat)} (h : (ms.map (·.1)).Nodup) {p q : (Int × Int) × Nat} (hp : p ∈ ms) (hq : q ∈ ms) (he : p.1 = q.1) : p = q := by
  induction ms with
  | nil => cases hp
  | cons a r ih =>
    simp only [List.map_cons, List.nodup_cons] at h
    rcases List.mem_cons.1 hp with h1 | h1
    · rcases List.mem_cons.1 hq with h2 | h2
      · rw [h1, h2]
      · exact absurd (List.mem_map.2 ⟨q, h2, by rw [← he, h1]⟩) h.1
    · rcases List.mem_cons.1 hq with h2 | h2
      · exact absurd (List.mem_map.2 ⟨p, h1, by rw [he, h2]⟩) h.1
      · exact ih h.2 h1 h2

section
variable {es es2 : List En} {ms : List ((Int × Int) × Nat)} {c : Nat → Int} {n : Int} {ts ts2 : List Tk} {x : En}

/-- An entry waits no more. -/
theorem LaneOk.drop (h : LaneOk es ms c n ts) (hnd : (es.map (·.b)).Nodup) (hmnd : (ms.map (·.1)).Nodup) (hx : x ∈ es) (hg : x.gone = false) (hts2 : ts2 = live es2) (hp : ts.Perm (x.t :: ts2))
    (hsub : ∀ e ∈ es2, e.gone = false → e ∈ es ∧ e.b ≠ x.b) (hsup : ∀ e ∈ es, e.gone = false → e.b ≠ x.b → e ∈ es2) (hlen : es2.length ≤ 2 * ts2.length + 16) :
    LaneOk es2 (ms.filter fun p => p.1 ≠ (x.t.k, x.t.s)) (fun i => if i = x.t.k.toNat then c x.t.k.toNat - 1 else c i) (n - 1) ts2 where
  tk := hts2
  nn := by
    have := hp.length_eq
    rw [h.nn, this]
    simp
  cnt := fun j hj => by
    have hr := may_range (h.ok x.t (h.tk ▸ mem_live.2 ⟨x, hx, hg, rfl⟩))
    have hc := h.cnt j hj
    have hpc := hp.countP_eq (fun t => t.k == (j : Int))
    simp only [cntK] at hc ⊢
    rw [hpc, List.countP_cons] at hc
    by_cases hjx : j = x.t.k.toNat
    · subst hjx
      have hk : (x.t.k == ((x.t.k.toNat : Nat) : Int)) = true := by simp; omega
      rw [if_pos rfl, hc, hk]
      simp
    · rw [if_neg hjx, hc]
      have hk : (x.t.k == (j : Int)) = false := by simp; omega
      rw [hk]
      simp
  ok := fun t ht => h.ok t (hp.mem_iff.2 (List.mem_cons_of_mem _ ht))
  wf := fun t ht => h.wf t (hp.mem_iff.2 (List.mem_cons_of_mem _ ht))
  m1 := fun p hp' => by
    obtain ⟨hpm, hpk⟩ := List.mem_filter.1 hp'
    obtain ⟨hs, e, he, hge, hb, hk⟩ := h.m1 p hpm
    refine ⟨hs, e, hsup e he hge (fun hbx => ?_), hge, hb, hk⟩
    obtain rfl := nodup_b_inj hnd he hx hbx
    simp [← hk] at hpk
  m2 := fun e he hge hs => by
    obtain ⟨he1, hbx⟩ := hsub e he hge
    have hm := h.m2 e he1 hge hs
    refine List.mem_filter.2 ⟨hm, ?_⟩
    simp only [ne_eq, decide_eq_true_eq]
    intro hk
    have hks : e.t.k = x.t.k := (Prod.mk.inj hk).1
    have hmx := h.m2 x hx hg (by rw [← hks]; exact hs)
    have := key_unique hmnd hm hmx hk
    exact hbx (Prod.mk.inj this).2
  len := hlen

/-- A ticket goes in behind all. -/
theorem LaneOk.put (h : LaneOk es ms c n ts) (t : Tk) (nb : Nat) (hm : may t = 0) (hw : t.Wf) (hs : spc t.k = true) :
    LaneOk (es ++ [⟨nb, t, false⟩]) (ms ++ [((t.k, t.s), nb)]) (fun i => if i = t.k.toNat then c t.k.toNat + 1 else c i) (n + 1) (ts ++ [t]) where
  tk := by rw [live_snoc, h.tk]; rfl
  nn := by rw [h.nn]; simp
  cnt := fun j hj => by
    have hr := may_range hm
    have hc := h.cnt j hj
    simp only [cntK] at hc ⊢
    rw [List.countP_append]
    by_cases hjx : j = t.k.toNat
    · subst hjx
      have hk : (t.k == ((t.k.toNat : Nat) : Int)) = true := by simp; omega
      rw [if_pos rfl, hc, List.countP_cons, hk]
      simp
    · rw [if_neg hjx, hc, List.countP_cons]
      have hk : (t.k == (j : Int)) = false := by simp; omega
      rw [hk]
      simp
  ok := fun u hu => by
    rcases List.mem_append.1 hu with hu | hu
    · exact h.ok u hu
    · simp at hu; subst hu; exact hm
  wf := fun u hu => by
    rcases List.mem_append.1 hu with hu | hu
    · exact h.wf u hu
    · simp at hu; subst hu; exact hw
  m1 := fun p hp => by
    rcases List.mem_append.1 hp with hp | hp
    · obtain ⟨hs, e, he, r⟩ := h.m1 p hp
      exact ⟨hs, e, List.mem_append_left _ he, r⟩
    · simp at hp
      subst hp
      exact ⟨hs, ⟨nb, t, false⟩, by simp, rfl, rfl, rfl⟩
  m2 := fun e he hge hse => by
    rcases List.mem_append.1 he with he | he
    · exact List.mem_append_left _ (h.m2 e he hge hse)
    · simp at he
      subst he
      simp
  len := by have := h.len; simp; omega
theorem LaneOk.putPing (h : LaneOk es ms c n ts) (t : Tk) (nb : Nat) (hm : may t = 0) (hw : t.Wf) (hs : spc t.k = false) :
    LaneOk (es ++ [⟨nb, t, false⟩]) ms (fun i => if i = t.k.toNat then c t.k.toNat + 1 else c i) (n + 1) (ts ++ [t]) where
  tk := by rw [live_snoc, h.tk]; rfl
  nn := by rw [h.nn]; simp
  cnt := fun j hj => by
    have hr := may_range hm
    have hc := h.cnt j hj
    simp only [cntK] at hc ⊢
    rw [List.countP_append]
    by_cases hjx : j = t.k.toNat
    · subst hjx
      have hk : (t.k == ((t.k.toNat : Nat) : Int)) = true := by simp; omega
      rw [if_pos rfl, hc, List.countP_cons, hk]
      simp
    · rw [if_neg hjx, hc, List.countP_cons]
      have hk : (t.k == (j : Int)) = false := by simp; omega
      rw [hk]
      simp
  ok := fun u hu => by
    rcases List.mem_append.1 hu with hu | hu
    · exact h.ok u hu
    · simp at hu; subst hu; exact hm
  wf := fun u hu => by
    rcases List.mem_append.1 hu with hu | hu
    · exact h.wf u hu
    · simp at hu; subst hu; exact hw
  m1 := fun p hp => by
    obtain ⟨hs, e, he, r⟩ := h.m1 p hp
    exact ⟨hs, e, List.mem_append_left _ he, r⟩
  m2 := fun e he hge hse => by
    rcases List.mem_append.1 he with he | he
    · exact h.m2 e he hge hse
    · simp at he
      subst he
      rw [hs] at hse
      cases hse
  len := by have := h.len; simp; omega

/-- A grant is added to the one that waits. -/
def addGrant (s v : Int) (ts : List Tk) : List Tk := ts.map fun u => if u.k = 3 ∧ u.s = s then { u with v := u.v + v } else u
theorem live_addTo (h : LaneOk es ms c n ts) (hnd : (es.map (·.b)).Nodup) (hmnd : (ms.map (·.1)).Nodup) (hx : x ∈ es) (hg : x.gone = false) (hk : x.t.k = 3) (v : Int) : live (addTo x.b v es) = addGrant x.t.s v (live es) := by
  have key : ∀ l : List En, (∀ e ∈ l, e ∈ es) → live (addTo x.b v l) = addGrant x.t.s v (live l) := by
    intro l
    induction l with
    | nil => intro _; rfl
    | cons e l ih =>
      intro hl
      have hl' := ih (fun e he => hl e (List.mem_cons_of_mem _ he))
      have hee := hl e (by simp)
      have e1 : addTo x.b v (e :: l) = (if e.b = x.b then { e with t := { e.t with v := e.t.v + v } } else e) :: addTo x.b v l := rfl
      rw [e1]
      rcases Bool.eq_false_or_eq_true e.gone with hge | hge
      · have e2 : live (e :: l) = live l := by simp [live, hge]
        rw [e2, ← hl']
        split <;> simp [live, hge]
      · have e2 : live (e :: l) = e.t :: live l := by simp [live, hge]
        rw [e2]
        by_cases hb : e.b = x.b
        · obtain rfl := nodup_b_inj hnd hee hx hb
          rw [if_pos rfl]
          have : live ({ e with t := { e.t with v := e.t.v + v } } :: addTo e.b v l) = { e.t with v := e.t.v + v } :: live (addTo e.b v l) := by simp [live, hge]
          rw [this, hl']
          simp [addGrant, hk]
        · rw [if_neg hb]
          have : live (e :: addTo x.b v l) = e.t :: live (addTo x.b v l) := by simp [live, hge]
          rw [this, hl']
          have hne : ¬ (e.t.k = 3 ∧ e.t.s = x.t.s) := by
            rintro ⟨h1, h2⟩
            have m1 := h.m2 e hee hge (by rw [h1]; rfl)
            have m2 := h.m2 x hx hg (by rw [hk]; rfl)
            have := key_unique hmnd m1 m2 (by rw [h1, h2, hk])
            exact hb (Prod.mk.inj this).2
          simp [addGrant, hne]
  exact key es (fun _ h => h)
theorem LaneOk.add (h : LaneOk es ms c n ts) (hnd : (es.map (·.b)).Nodup) (hmnd : (ms.map (·.1)).Nodup) (hx : x ∈ es) (hg : x.gone = false) (hk : x.t.k = 3) (v : Int) (hv0 : 0 < v) (hv : v ≤ 4294967295 - x.t.v) :
    LaneOk (addTo x.b v es) ms c n (addGrant x.t.s v ts) where
  tk := by rw [live_addTo h hnd hmnd hx hg hk, h.tk]
  nn := by rw [h.nn]; simp [addGrant]
  cnt := fun j hj => by
    rw [h.cnt j hj]
    unfold cntK addGrant
    rw [List.countP_map]
    congr 2
    funext u
    simp only [Function.comp]
    split <;> rfl
  ok := fun t ht => by
    obtain ⟨u, hu, rfl⟩ := List.mem_map.1 ht
    have := h.ok u hu
    have hw := h.wf u hu
    split
    · rename_i hc
      obtain ⟨h1, h2⟩ := hc
      have hu0 := hw.v0
      simp only [may, h1, fStream, fValue, fitsB] at this ⊢
      simp only [show ¬ ((3 : Int) < 1 ∨ (7 : Int) < 3) from by omega, if_false] at this ⊢
      simp at this ⊢
      split at this
      · cases this
      · rename_i hs
        rw [if_neg hs]
        split at this
        · cases this
        · rw [if_neg (by omega)]
    · exact this
  wf := fun t ht => by
    obtain ⟨u, hu, rfl⟩ := List.mem_map.1 ht
    have hw := h.wf u hu
    split
    · rename_i hc
      obtain ⟨h1, h2⟩ := hc
      have hux : u = x.t := by
        rw [h.tk] at hu
        obtain ⟨e, he, hge, het⟩ := mem_live.1 hu
        have m1 := h.m2 e he hge (by rw [het, h1]; rfl)
        have m2 := h.m2 x hx hg (by rw [hk]; rfl)
        have := key_unique hmnd m1 m2 (by rw [het, h1, h2, hk])
        have hb := (Prod.mk.inj this).2
        obtain rfl := nodup_b_inj hnd he hx hb
        exact het.symm
      have := hw.v0
      exact ⟨hw.k0, hw.k1, hw.s0, hw.s1, by show 0 ≤ u.v + v; omega, by show u.v + v ≤ 4294967295; rw [hux]; omega⟩
    · exact hw
  m1 := fun p hp => by
    obtain ⟨hs, e, he, hge, hb, hke⟩ := h.m1 p hp
    refine ⟨hs, if e.b = x.b then { e with t := { e.t with v := e.t.v + v } } else e, List.mem_map.2 ⟨e, he, rfl⟩, ?_⟩
    split
    · exact ⟨hge, hb, hke⟩
    · exact ⟨hge, hb, hke⟩
  m2 := fun e he hge hs => by
    obtain ⟨e0, h0, ⟨hb, rfl⟩ | ⟨hb, rfl⟩⟩ := addTo_mem he
    · exact h.m2 e0 h0 hge hs
    · exact h.m2 _ h0 hge hs
  len := by rw [addTo_length]; have := h.len; simpa [addGrant] using this
end
end Go.Proofs.YtdeonehebbofiaaDoor
