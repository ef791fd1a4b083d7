/- Regions that draw: every order gives what the evaluator gives. -/
import Derived.Test.YtabgoidablkmjaaGreatDoorVd21
set_option linter.unusedVariables false
set_option linter.unusedSimpArgs false
namespace Go.Vd

/-- The bit k of the row i. -/
def mk (b : List Nat) (i k : Nat) : Bool := (b.getD i 0).testBit k

structure DrawOK (K : List Nat) (ops : Array Oper) (as : List AOper) (b hs : List Nat) : Prop where
  len : as.length = ops.size
  back : ∀ i o, ops[i]? = some o → ∀ e ∈ o.after, Region.binds .any e = true → e.on < i
  clos : ∀ i o k, ops[i]? = some o → k < ops.size → mk b i k = true → ∃ e ∈ o.after, Region.binds .any e = true ∧ (e.on = k ∨ mk b e.on k = true)
  hsv : ∀ (k h : Nat), hs[k]? = some h → isHv as h = true ∧ h < ops.size
  tot : ∀ (j k g h : Nat), hs[j]? = some g → hs[k]? = some h → j < k → mk b h g = true
  all : ∀ i, i < ops.size → isHv as i = true → i ∈ hs
  dst : ∀ (i k : Nat) (o p : AOper) (d : Nat), as[i]? = some o → as[k]? = some p → p.dst = some d → (d ∈ o.tl → mk b i k = true) ∧ (i = k ∨ o.dst ≠ some d)
  keep : ∀ (o : AOper) (d : Nat), o ∈ as → o.dst = some d → d ∉ K

theorem zipIdx_mem {α : Type} {l : List α} {x : α} {k : Nat} (h : l[k]? = some x) : (x, k) ∈ l.zipIdx := by
  rw [List.mem_zipIdx_iff_getElem?]
  exact h

theorem drawOK_spec {K : List Nat} {ops : Array Oper} {as : List AOper} {b hs : List Nat} (h : drawOK K ops.toList as b hs = true) : DrawOK K ops as b hs := by
  simp only [drawOK, Bool.and_eq_true] at h
  obtain ⟨⟨⟨⟨⟨h1, h2⟩, h3⟩, h4⟩, h5⟩, h6⟩ := h
  have hlen : ops.toList.length = ops.size := by simp
  rw [hlen] at h1 h2 h3 h4
  rw [List.all_eq_true] at h2 h3 h4 h5 h6
  have hlt : ∀ {i : Nat} {o : Oper}, ops[i]? = some o → i < ops.size := fun e => (Array.getElem?_eq_some_iff.1 e).1
  have key : ∀ (i : Nat) (o : Oper), ops[i]? = some o → _ := fun i o e => h2 i (List.mem_range.2 (hlt e))
  refine ⟨Nat.eq_of_beq_eq_true h1, ?_, ?_, ?_, ?_, ?_, ?_, ?_⟩
  · intro i o e x hx hb
    have := key i o e
    have e' : ops.toList[i]? = some o := by simpa using e
    rw [e'] at this
    simp only [Bool.and_eq_true] at this
    have h7 := List.all_eq_true.1 this.1 x (by simpa using hx)
    simp only [hb, Bool.not_true, Bool.false_or] at h7
    exact Nat.le_of_ble_eq_true h7
  · intro i o k e hk hm
    have := key i o e
    have e' : ops.toList[i]? = some o := by simpa using e
    rw [e'] at this
    simp only [Bool.and_eq_true] at this
    have h7 := List.all_eq_true.1 this.2 k (List.mem_range.2 hk)
    simp only [mk] at hm
    simp only [hm, Bool.not_true, Bool.false_or] at h7
    obtain ⟨x, hx, h8⟩ := List.any_eq_true.1 h7
    simp only [Bool.and_eq_true, Bool.or_eq_true] at h8
    exact ⟨x, by simpa using hx, h8.1, h8.2.imp (fun g => Nat.eq_of_beq_eq_true g) id⟩
  · intro k g e
    have := h3 _ (zipIdx_mem e)
    simp only [Bool.and_eq_true] at this
    exact ⟨this.1.1, Nat.le_of_ble_eq_true this.1.2⟩
  · intro j k g x e1 e2 hjk
    have := h3 _ (zipIdx_mem e2)
    simp only [Bool.and_eq_true] at this
    have h7 := List.all_eq_true.1 this.2 _ (zipIdx_mem e1)
    have h8 : Nat.blt j k = true := Nat.ble_eq_true_of_le hjk
    simpa [h8, mk] using h7
  · intro i hi hv
    have := h4 i (List.mem_range.2 hi)
    simpa [hv] using this
  · intro i k o p d e1 e2 hd
    have := List.all_eq_true.1 (h5 _ (zipIdx_mem e1)) _ (zipIdx_mem e2)
    simp only [hd, Bool.and_eq_true, Bool.or_eq_true] at this
    refine ⟨fun hm => ?_, ?_⟩
    · have h7 := this.1
      simpa [hm, mk] using h7
    · rcases this.2 with h7 | h7
      · exact .inl (Nat.eq_of_beq_eq_true h7)
      · exact .inr (by simpa using h7)
  · intro o d ho hd hk
    have := h6 o ho
    rw [hd] at this
    simp [hk] at this

section
variable {K : List Nat} {ops : Array Oper} {as : List AOper} {b hs : List Nat}

def Closed (ops : Array Oper) (listed : Array Bool) : Prop :=
  ∀ i o, ops[i]? = some o → listed.getD i false = true → ∀ e ∈ o.after, Region.binds .any e = true → listed.getD e.on false = true

theorem mask_listed (hD : DrawOK K ops as b hs) {listed : Array Bool} (hc : Closed ops listed) : ∀ (i : Nat) (o : Oper), ops[i]? = some o →
    (∀ e ∈ o.after, Region.binds .any e = true → listed.getD e.on false = true) → ∀ k, k < ops.size → mk b i k = true → listed.getD k false = true := by
  intro i
  induction i using Nat.strongRecOn with
  | _ i ih =>
    intro o ho hr k hk hm
    obtain ⟨e, he, hb, h⟩ := hD.clos i o k ho hk hm
    have hl := hr e he hb
    rcases h with h | h
    · rw [← h]; exact hl
    · have hlt := hD.back i o ho e he hb
      have hsz : i < ops.size := (Array.getElem?_eq_some_iff.1 ho).1
      have hon : ops[e.on]? = some ops[e.on] := by simp [Nat.lt_trans hlt hsz]
      exact ih e.on hlt _ hon (fun e' he' hb' => hc e.on _ hon hl e' he' hb') k hk h

theorem mask_listed' (hD : DrawOK K ops as b hs) {listed : Array Bool} (hc : Closed ops listed) {i k : Nat} {o : Oper} (ho : ops[i]? = some o) (hl : listed.getD i false = true) (hk : k < ops.size)
    (hm : mk b i k = true) : listed.getD k false = true :=
  mask_listed hD hc i o ho (fun e he hb => hc i o ho hl e he hb) k hk hm

theorem getD_set {listed : Array Bool} {i j : Nat} (hi : i < listed.size) : (listed.setIfInBounds i true).getD j false = true ↔ (j = i ∨ listed.getD j false = true) := by
  simp only [Array.getD_eq_getD_getElem?, Array.getElem?_setIfInBounds]
  by_cases h : i = j
  · subst h; simp [hi]
  · have : ¬ j = i := fun e => h e.symm
    simp [h, this]

theorem Closed.set {listed : Array Bool} (hc : Closed ops listed) {i : Nat} {o : Oper} (ho : ops[i]? = some o) (hi : i < listed.size)
    (hr : ∀ e ∈ o.after, Region.binds .any e = true → listed.getD e.on false = true) : Closed ops (listed.setIfInBounds i true) := by
  intro j p hp hl e he hb
  rw [getD_set hi] at hl ⊢
  rcases hl with hl | hl
  · subst hl
    rw [ho] at hp
    cases hp
    exact .inr (hr e he hb)
  · exact .inr (hc j p hp hl e he hb)

/-- If not all is listed, something is ready. -/
theorem exists_ready (hD : DrawOK K ops as b hs) {listed : Array Bool} (hsz : listed.size = ops.size) : ∀ (i : Nat), i < ops.size → listed.getD i false = false → ∃ j, j ∈ Region.ready .any ops listed := by
  intro i
  induction i using Nat.strongRecOn with
  | _ i ih =>
    intro hi hu
    by_cases h : ∀ e ∈ ops[i].after, Region.binds .any e = true → listed.getD e.on false = true
    · refine ⟨i, mem_ready.2 ⟨?_, ops[i], by simp [hi], h⟩⟩
      have : i < listed.size := by omega
      simp only [Array.getD_eq_getD_getElem?] at hu ⊢
      simpa [this] using hu
    · simp only [Classical.not_forall] at h
      obtain ⟨e, he, hb, h⟩ := h
      have hlt := hD.back i _ (by simp [hi] : ops[i]? = some ops[i]) e he hb
      exact ih e.on hlt (by omega) (by simpa using h)

variable {P : Program} {C : Ctx} {ih : Task → Option Out} {nt : Nat} {Q : Exit → Act → World → Prop}
  {r : DRes} {tm0 : Tr AV} {H0 : AH} {φ0 : Mp} {w0 : World} {a0 : Act} {ls wins : List (List AOper)}

/-- What stays true while operations of the region are taken. -/
structure DInv (P : Program) (ops : Array Oper) (as : List AOper) (hs : List Nat) (nt : Nat) (r : DRes) (tm0 : Tr AV) (H0 : AH) (φ0 : Mp) (w0 : World) (a0 : Act)
    (listed : Array Bool) (m : Nat) (H : AH) (φ : Mp) (tm : Tr AV) (a : Act) (w : World) : Prop where
  size : listed.size = ops.size
  clos : Closed ops listed
  hv : ∀ (k h : Nat), hs[k]? = some h → (listed.getD h false = true ↔ k < m)
  le : m ≤ r.ts.length
  hp : r.hs[m]? = some H
  rel : R P.globals.size φ H w
  nx : Nx φ0 H0 w0 φ H w
  fr : FR φ tm a
  sz : nt ≤ a.tmps.size
  df : a.defers = a0.defers
  seen : ∀ (i : Nat) (o : AOper) (d : Nat), listed.getD i false = true → as[i]? = some o → o.dst = some d → ev tm (.t d) = ev r.tm (.t d)
  unseen : ∀ t, (∀ (i : Nat) (o : AOper), listed.getD i false = true → as[i]? = some o → o.dst ≠ some t) → ev tm (.t t) = ev tm0 (.t t)

/-- What the evaluator has shown. -/
structure DRun (P : Program) (C : Ctx) (ih : Task → Option Out) (ops : Array Oper) (as : List AOper) (b hs : List Nat) (nt : Nat) (r : DRes) (tm0 : Tr AV) : Prop where
  comp : ∀ (i : Nat) (o : Oper), ops[i]? = some o → ∃ ao, as[i]? = some ao ∧ cOper P nt ops.toList o = some ao
  rest : ∀ t, (∀ (i : Nat) (o : AOper), as[i]? = some o → o.dst ≠ some t) → ev r.tm (.t t) = ev tm0 (.t t)
  light : ∀ (i m : Nat) (o : AOper) (H : AH), as[i]? = some o → o.op.light = true → m ≤ r.ts.length → r.hs[m]? = some H → inWin b hs i m = true → ∃ v, valR C r.tm H o = some v ∧ dstOK r.tm o.dst v = true
  heavy : ∀ (k i : Nat) (o : AOper) (H : AH), hs[k]? = some i → as[i]? = some o → k < r.ts.length → r.hs[k]? = some H →
    ∃ v H', astep C ih r.tm H o = .go v H' ∧ r.hs[k + 1]? = some H' ∧ dstOK r.tm o.dst v = true
  last : ∃ HL, r.hs[r.ts.length]? = some HL ∧ ((r.ex = .normal ∧ r.hp = HL ∧ r.ts.length = hs.length) ∨
    (∃ v i o, r.ex = .pan v ∧ hs[r.ts.length]? = some i ∧ as[i]? = some o ∧ astep C ih r.tm HL o = .pan v r.hp))

theorem dstOK_ev {tm : Tr AV} {d : Nat} {v : AV} (h : dstOK tm (some d) v = true) : v = ev tm (.t d) := AV.beq_eq _ _ h

theorem DInv.step (hD : DrawOK K ops as b hs) (hr : DRun P C ih ops as b hs nt r tm0) {listed : Array Bool} {m m' : Nat} {H H' : AH} {φ ψ : Mp} {tm : Tr AV} {a : Act} {w w' : World}
    (h : DInv P ops as hs nt r tm0 H0 φ0 w0 a0 listed m H φ tm a w) {i : Nat} {o : Oper} {ao : AOper} (ho : ops[i]? = some o) (hao : as[i]? = some ao) (hco : cOper P nt ops.toList o = some ao)
    (hu : listed.getD i true = false) (hrd : ∀ e ∈ o.after, Region.binds .any e = true → listed.getD e.on false = true)
    (hm : ∀ (k h : Nat), hs[k]? = some h → ((listed.setIfInBounds i true).getD h false = true ↔ k < m')) (hle : m' ≤ r.ts.length) (hhp : r.hs[m']? = some H')
    {v : AV} {v' : Value} (hR : R P.globals.size ψ H' w') (hn : Nx φ H w ψ H' w') (hv : VR ψ v v') (hd : dstOK r.tm ao.dst v = true) :
    DInv P ops as hs nt r tm0 H0 φ0 w0 a0 (listed.setIfInBounds i true) m' H' ψ (putT tm ao.dst v) (a.put o.dst v') w' := by
  obtain ⟨h1, h2, h3, h4⟩ := cOper_spec hco
  have hi : i < listed.size := by rw [h.size]; exact (Array.getElem?_eq_some_iff.1 ho).1
  refine ⟨by simp [h.size], h.clos.set ho hi hrd, hm, hle, hhp, hR, h.nx.trans hn, ?_, ?_, ?_, ?_, ?_⟩
  · rw [h1]
    exact (h.fr.mono hn.le).put hv fun d e => Nat.lt_of_lt_of_le (h4 d e) h.sz
  · rw [put_size]; exact h.sz
  · rw [put_defers]; exact h.df
  · intro j p d hl hp hpd
    rw [getD_set hi] at hl
    rcases hl with hl | hl
    · subst hl
      rw [hao] at hp
      cases hp
      rw [hpd] at hd ⊢
      simp only [putT]
      rw [ev_set, if_pos rfl]
      exact dstOK_ev hd
    · rw [putT_ne, h.seen j p d hl hp hpd]
      intro e
      rcases (hD.dst i j ao p d hao hp hpd).2 with g | g
      · subst g
        simp only [Array.getD_eq_getD_getElem?] at hu hl
        cases hx : listed[i]? with
        | none => rw [hx] at hl; simp at hl
        | some x => rw [hx] at hl hu; simp at hl hu; rw [hl] at hu; cases hu
      · exact g e
  · intro t ht
    rw [putT_ne (ht i ao ((getD_set hi).2 (.inl rfl)) hao)]
    exact h.unseen t fun j p hl hp => ht j p ((getD_set hi).2 (.inr hl)) hp

/-- The temporaries that a ready operation looks at. -/
theorem DInv.looks (hD : DrawOK K ops as b hs) (hr : DRun P C ih ops as b hs nt r tm0) {listed : Array Bool} {m : Nat} {H : AH} {φ : Mp} {tm : Tr AV} {a : Act} {w : World}
    (h : DInv P ops as hs nt r tm0 H0 φ0 w0 a0 listed m H φ tm a w) {i : Nat} {o : Oper} {ao : AOper} (ho : ops[i]? = some o) (hao : as[i]? = some ao)
    (hrd : ∀ e ∈ o.after, Region.binds .any e = true → listed.getD e.on false = true) : ∀ t ∈ ao.tl, ev tm (.t t) = ev r.tm (.t t) := by
  intro t ht
  by_cases hx : ∃ (k : Nat) (p : AOper), as[k]? = some p ∧ p.dst = some t
  · obtain ⟨k, p, hp, hpd⟩ := hx
    have hk : k < ops.size := by
      rw [← hD.len]
      exact (List.getElem?_eq_some_iff.1 hp).1
    exact h.seen k p t (mask_listed hD h.clos i o ho hrd k hk ((hD.dst i k ao p t hao hp hpd).1 ht)) hp hpd
  · have hno : ∀ (k : Nat) (p : AOper), as[k]? = some p → p.dst ≠ some t := fun k p hp hpd => hx ⟨k, p, hp, hpd⟩
    rw [h.unseen t fun k p _ hp => hno k p hp, hr.rest t hno]

/-- All is listed. -/
theorem DInv.done (hD : DrawOK K ops as b hs) (hr : DRun P C ih ops as b hs nt r tm0) {listed : Array Bool} {m : Nat} {H : AH} {φ : Mp} {tm : Tr AV} {a : Act} {w : World}
    (h : DInv P ops as hs nt r tm0 H0 φ0 w0 a0 listed m H φ tm a w) (hall : ∀ i, i < ops.size → listed.getD i false = true) : r.ex = .normal ∧ H = r.hp ∧ FR φ r.tm a := by
  have hm : hs.length ≤ m := by
    rcases Nat.lt_or_ge m hs.length with g | g
    · have e : hs[m]? = some hs[m] := by simp [g]
      have := (h.hv m _ e).1 (hall _ (hD.hsv m _ e).2)
      omega
    · exact g
  have hl := h.le
  obtain ⟨HL, h1, h2⟩ := hr.last
  rcases h2 with ⟨h2, h3, h4⟩ | ⟨v, i, o, h2, h3, _⟩
  · have : m = r.ts.length := by omega
    subst this
    have := h.hp
    rw [h1] at this
    cases this
    refine ⟨h2, h3.symm, fun t => ?_⟩
    have hf := h.fr t
    by_cases hx : ∃ (k : Nat) (p : AOper), as[k]? = some p ∧ p.dst = some t
    · obtain ⟨k, p, hp, hpd⟩ := hx
      have hk : k < ops.size := by
        rw [← hD.len]
        exact (List.getElem?_eq_some_iff.1 hp).1
      rw [← h.seen k p t (hall k hk) hp hpd]
      exact hf
    · have hno : ∀ (k : Nat) (p : AOper), as[k]? = some p → p.dst ≠ some t := fun k p hp hpd => hx ⟨k, p, hp, hpd⟩
      rw [hr.rest t hno, ← h.unseen t fun k p _ hp => hno k p hp]
      exact hf
  · have : r.ts.length < hs.length := (List.getElem?_eq_some_iff.1 h3).1
    omega
end
end Go.Vd
