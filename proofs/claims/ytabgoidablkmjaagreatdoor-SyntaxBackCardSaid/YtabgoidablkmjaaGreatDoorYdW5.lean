/- Rules for regions that draw: light operations, heavy ones, and the looks again. -/
import Derived.Test.YtabgoidablkmjaaGreatDoorYdW
import Derived.Test.YtabgoidablkmjaaGreatDoorYdF
set_option linter.unusedVariables false
set_option linter.unusedSimpArgs false
namespace Go.Vd

mutual
theorem AV.beq_refl : ∀ a : AV, AV.beq a a = true
  | .bool _ => by simp [AV.beq]
  | .int _ _ => by simp [AV.beq]
  | .cls _ _ _ => by simp [AV.beq]
  | .str _ => by simp [AV.beq]
  | .sym _ => by simp [AV.beq]
  | .nilp => by simp [AV.beq]
  | .ptr _ _ => by simp [AV.beq]
  | .hnd _ _ => by simp [AV.beq]
  | .nils => by simp [AV.beq]
  | .slc _ _ _ _ _ _ => by simp [AV.beq]
  | .nilm => by simp [AV.beq]
  | .map _ => by simp [AV.beq]
  | .fn _ a b => by simp [AV.beq, AV.beqs_refl a, AV.beqs_refl b]
  | .nilf => by simp [AV.beq]
  | .ifc _ v => by simp [AV.beq, AV.beq_refl v]
  | .nili => by simp [AV.beq]
  | .agg l => by simp [AV.beq, AV.beqs_refl l]
  | .tup l => by simp [AV.beq, AV.beqs_refl l]
theorem AV.beqs_refl : ∀ l : List AV, AV.beqs l l = true
  | [] => by simp [AV.beqs]
  | a :: l => by simp [AV.beqs, AV.beq_refl a, AV.beqs_refl l]
end

/-- Light operations, one behind the other. -/
def Lx (C : Ctx) (H : AH) (ops : List AOper) (l : TL) (k : TL → Prop) : Prop := ∀ tm, TmR tm l → ∃ tm1 l1, lightsR C H ops tm = some tm1 ∧ TmR tm1 l1 ∧ k l1

def dL (l : TL) (d : Option Nat) (v : AV) : Prop := match d with
  | none => True
  | some k => look l k = some v

/-- Light operations that give again what they gave. -/
def Ag (C : Ctx) (H : AH) (l : TL) (ops : List AOper) : Prop := ∀ tm, TmR tm l → again C tm H ops = true

def AgA (C : Ctx) (l : TL) : List AH → List (List AOper) → Prop
  | [], _ => True
  | H :: Hs, w :: ws => Ag C H l w ∧ AgA C l Hs ws
  | _ :: _, [] => False

def Agr (a b : TL) : List Nat → Prop
  | [] => True
  | t :: r => (∃ x, look a t = some x ∧ look b t = some x) ∧ Agr a b r

def HvA (l : TL) : List (TL × AV) → List AOper → Prop
  | [], _ => True
  | (a, v) :: ts, o :: os => Agr a l o.tl ∧ dL l o.dst v ∧ HvA l ts os
  | _ :: _, [] => False

def TsR : List (Tr AV × AV) → List (TL × AV) → Prop
  | [], [] => True
  | (t, v) :: ts, (l, u) :: us => TmR t l ∧ v = u ∧ TsR ts us
  | _, _ => False

def Wd (C : Ctx) (ls : List (List AOper)) (hv : List AOper) (l : TL) (H : AH) (K : TL → AH → List AH → List (TL × AV) → Prop) : Prop :=
  ∀ tm, TmR tm l → ∃ n, ∀ m, n ≤ m → ∃ r lf ts, segsR C (run C m) ls hv tm H = some r ∧ r.ex = .normal ∧ TmR r.tm lf ∧ TsR r.ts ts ∧ K lf r.hp r.hs ts

section
variable {C : Ctx} {l : TL} {H H' : AH} {v : AV} {df : List (Nat × List AV)} {Q : AEx → ASt → Prop} {k : TL → Prop} {ops : List AOper} {d : Option Nat} {op : AOp} {g : Option (Nat × Bool)}
  {K : TL → AH → List AH → List (TL × AV) → Prop}

theorem valR_of {o : AOper} (hg : wantL l o.guard = some true) (h : Ao C l H o.op v H') {tm : Tr AV} (t : TmR tm l) : valR C tm H o = some v := by
  unfold Ao at h
  unfold valR
  rw [if_pos (wanted_of t hg), h tm t]
theorem valR_skip {o : AOper} (hg : wantL l o.guard = some false) {tm : Tr AV} (t : TmR tm l) : valR C tm H o = some .und := by
  unfold valR
  rw [if_neg (by rw [wanted_of t hg]; simp)]

theorem Lx.nil (h : k l) : Lx C H [] l k := fun tm t => ⟨tm, l, rfl, t, h⟩
theorem Lx.val (hg : wantL l g = some true) (h : Ao C l H op v H) (hk : Lx C H ops (putl l d v) k) : Lx C H (⟨d, op, g⟩ :: ops) l k := fun tm t => by
  unfold lightsR
  rw [valR_of (o := ⟨d, op, g⟩) hg h t]
  exact hk _ (t.put d v)
theorem Lx.skip (hg : wantL l g = some false) (hk : Lx C H ops (putl l d .und) k) : Lx C H (⟨d, op, g⟩ :: ops) l k := fun tm t => by
  unfold lightsR
  rw [valR_skip (o := ⟨d, op, g⟩) hg t]
  exact hk _ (t.put d .und)

theorem dL.ok {tm : Tr AV} (t : TmR tm l) (h : dL l d v) : dstOK tm d v = true := by
  unfold dstOK
  cases d with
  | none => rfl
  | some j => simp only [ev, t j v h]; exact AV.beq_refl v
theorem Ag.nil : Ag C H l [] := fun tm t => rfl
theorem Ag.val (hg : wantL l g = some true) (h : Ao C l H op v H) (hd : dL l d v) (hk : Ag C H l ops) : Ag C H l (⟨d, op, g⟩ :: ops) := fun tm t => by
  unfold again
  rw [valR_of (o := ⟨d, op, g⟩) hg h t]
  simp only [hd.ok t, hk tm t, Bool.and_self]
theorem Ag.skip (hg : wantL l g = some false) (hd : dL l d .und) (hk : Ag C H l ops) : Ag C H l (⟨d, op, g⟩ :: ops) := fun tm t => by
  unfold again
  rw [valR_skip (o := ⟨d, op, g⟩) hg t]
  simp only [hd.ok t, hk tm t, Bool.and_self]

theorem Wd.last {ls : List (List AOper)} (h : Lx C H ops l fun l1 => K l1 H [H] []) : Wd C (ops :: ls) [] l H K := fun tm t => by
  obtain ⟨tm1, l1, h1, h2, h3⟩ := h tm t
  refine ⟨0, fun m _ => ⟨⟨.normal, H, tm1, [H], []⟩, l1, [], ?_, rfl, h2, trivial, h3⟩⟩
  unfold segsR
  rw [h1]
theorem Wd.step {ls : List (List AOper)} {o : AOper} {hv : List AOper}
    (h : Lx C H ops l fun l1 => ∃ v H', St C l1 H o v H' ∧ Wd C ls hv (putl l1 o.dst v) H' (fun lf Hf Hs ts => K lf Hf (H :: Hs) ((l1, v) :: ts))) : Wd C (ops :: ls) (o :: hv) l H K := fun tm t => by
  obtain ⟨tm1, l1, h1, h2, v, H', h3, h4⟩ := h tm t
  unfold St at h3
  obtain ⟨n, h3⟩ := h3
  obtain ⟨n2, h4⟩ := h4 _ (h2.put o.dst v)
  refine ⟨max n n2, fun m hm => ?_⟩
  obtain ⟨r, lf, ts, g1, g2, g3, g4, g5⟩ := h4 m (Nat.le_trans (Nat.le_max_right n n2) hm)
  refine ⟨⟨r.ex, r.hp, r.tm, H :: r.hs, (tm1, v) :: r.ts⟩, lf, (l1, v) :: ts, ?_, g2, g3, ⟨h2, rfl, g4⟩, g5⟩
  unfold segsR
  simp only [h1, h3 m (Nat.le_trans (Nat.le_max_left n n2) hm) tm1 h2, g1]

theorem AgA.ok {tm : Tr AV} (t : TmR tm l) : ∀ {Hs : List AH} {ws : List (List AOper)}, AgA C l Hs ws → againAll C tm Hs ws = true
  | [], _, _ => by unfold againAll; rfl
  | H :: Hs, w :: ws, ⟨h1, h2⟩ => by unfold againAll; simp only [h1 tm t, AgA.ok t h2, Bool.and_self]
  | _ :: _, [], h => h.elim

theorem Agr.ok {a b : TL} {t1 tm : Tr AV} (h1 : TmR t1 a) (h2 : TmR tm b) : ∀ {r : List Nat}, Agr a b r → agree t1 tm r = true
  | [], _ => rfl
  | t :: r, ⟨⟨x, g1, g2⟩, g3⟩ => by
    unfold agree
    simp only [ev, h1 t x g1, h2 t x g2, AV.beq_refl, Agr.ok h1 h2 g3, Bool.and_self]

theorem HvA.ok {tm : Tr AV} (t : TmR tm l) : ∀ {ts : List (Tr AV × AV)} {us : List (TL × AV)} {hv : List AOper}, TsR ts us → HvA l us hv → heavOK tm ts hv = true
  | [], [], _, _, _ => by unfold heavOK; rfl
  | (t1, v) :: ts, (a, u) :: us, o :: os, ⟨h1, h2, h3⟩, ⟨g1, g2, g3⟩ => by
    subst h2
    unfold heavOK
    simp only [g1.ok h1 t, g2.ok t, HvA.ok t h3 g3, Bool.and_self]
  | _ :: _, _ :: _, [], _, h => h.elim
  | [], _ :: _, _, h, _ => h.elim
  | _ :: _, [], _, h, _ => h.elim

theorem Wc.regd {ls : List (List AOper)} {hv : List AOper} {wins : List (List AOper)} (h : Wd C ls hv l H fun lf Hf Hs ts => AgA C lf Hs wins ∧ HvA lf ts hv ∧ Fin Q .normal lf df Hf) :
    Wc C (.regd ls hv wins) l df H Q := by
  unfold Wc Wx
  intro tm t
  obtain ⟨n, h1⟩ := h tm t
  obtain ⟨r, lf, ts, g1, g2, g3, g4, g5, g6, g7⟩ := h1 n (Nat.le_refl n)
  unfold Fin at g7
  refine ⟨n, .normal, ⟨r.tm, df, r.hp⟩, ?_, g7 r.tm g3⟩
  unfold exec drawR
  simp only [g1, g6.ok g3 g4, g5.ok g3, Bool.and_self, if_true, g2]

theorem AgA.nil {ws : List (List AOper)} : AgA C l [] ws := trivial
theorem AgA.cons {Hs : List AH} {w : List AOper} {ws : List (List AOper)} (h : Ag C H l w) (k : AgA C l Hs ws) : AgA C l (H :: Hs) (w :: ws) := ⟨h, k⟩
theorem HvA.nil {os : List AOper} : HvA l [] os := trivial
theorem HvA.cons {a : TL} {ts : List (TL × AV)} {o : AOper} {os : List AOper} (h1 : Agr a l o.tl) (h2 : dL l o.dst v) (h3 : HvA l ts os) : HvA l ((a, v) :: ts) (o :: os) := ⟨h1, h2, h3⟩
theorem Agr.nil {a b : TL} : Agr a b [] := trivial
theorem Agr.cons {a b : TL} {t : Nat} {r : List Nat} {x : AV} (h1 : look a t = some x) (h2 : look b t = some x) (h3 : Agr a b r) : Agr a b (t :: r) := ⟨⟨x, h1, h2⟩, h3⟩

/-! ### Memory: the heap behind an operation, by what is known of it -/
theorem AH.rd_at {X o e fl : Nat} {c : List AV} (h : H.get X = some (.cells c e fl)) (h2 : c[o]? = some v) : H.rd X o = some v := by rw [AH.rd_of h, h2]

theorem Wo.st1 {x y : Opd} {X o e fl : Nat} {u : AV} {c c' : List AV} (hx : evL l x = some (.ptr X o)) (hy : evL l y = some u) (hg : H.get X = some (.cells c e fl)) (hf : Nat.ble fl 1 = true) (ho : Nat.blt o c.length = true) (hu : u.cells = [u]) (hone : u.one = true)
    (hc : c.set o u = c') (hk : ∀ H', H'.next = H.next → H'.get X = some (.cells c' e fl) → (∀ Y, Y ≠ X → H'.get Y = H.get Y) → Wo C ops (putl l d .und) df H' Q) :
    Wo C (⟨d, .stn 1 x y, none⟩ :: ops) l df H Q :=
  Wo.val rfl (.stn hx hy (by rw [hu]; rfl) (by rw [hu]; exact AH.wr1_as hg (Nat.le_of_ble_eq_true hf) (Nat.le_of_ble_eq_true ho) hone hc)) (hk _ (AH.next_set _ _ _) (AH.get_set_self _ _ _) fun Y hY => AH.get_set_ne _ _ hY)

theorem Wo.boxn {e : Nat} {x : Opd} {u : AV} {c : List AV} (hx : evL l x = some u) (hc : u.cells = c) (hone : c.all AV.one = true)
    (hk : ∀ H', H'.next = H.next + 1 → H'.get H.next = some (.cells c e 0) → (∀ Y, Y ≠ H.next → H'.get Y = H.get Y) → Wo C ops (putl l d (.ptr H.next 0)) df H' Q) :
    Wo C (⟨d, .box e x, none⟩ :: ops) l df H Q := by
  subst hc
  exact Wo.val rfl (.box hx hone) (hk _ (AH.next_push _ _) (AH.get_push_self _ _) fun Y hY => AH.get_push_ne _ _ hY)
end
attribute [irreducible] Lx Ag Wd
end Go.Vd
namespace Go.Vd
section
variable {C : Ctx} {l : TL} {H H' : AH} {v : AV} {df : List (Nat × List AV)} {ops : List AOper} {d : Option Nat} {op : AOp} {g : Option (Nat × Bool)}
  {K : TL → AH → List AH → List (TL × AV) → Prop} {ls : List (List AOper)} {hv : List AOper}

theorem Wd.call {f : Nat} {as : List Opd} {xs : List AV} {R : AV → AH → Prop} {K' : AV → TL → AH → List AH → List (TL × AV) → Prop} (hg : wantL l g = some true) (ha : evsL l as = some xs) (h : Rt C f xs H R)
    (hk : ∀ v H', R v H' → Wd C ls hv (putl l d v) H' (K' v)) : ∃ v H', St C l H ⟨d, .call f as, g⟩ v H' ∧ Wd C ls hv (putl l d v) H' (K' v) := by
  obtain ⟨v, H', h1, h2⟩ := St.call (d := d) hg ha h
  exact ⟨v, H', h1, hk v H' h2⟩
theorem Wd.skip {K' : AV → TL → AH → List AH → List (TL × AV) → Prop} (hg : wantL l g = some false) (hk : Wd C ls hv (putl l d .und) H (K' .und)) :
    ∃ v H', St C l H ⟨d, op, g⟩ v H' ∧ Wd C ls hv (putl l d v) H' (K' v) :=
  ⟨.und, H, St.skip (o := ⟨d, op, g⟩) hg, hk⟩
theorem Wd.val {K' : AV → TL → AH → List AH → List (TL × AV) → Prop} (hg : wantL l g = some true) (h : Ao C l H op v H') (hk : Wd C ls hv (putl l d v) H' (K' v)) :
    ∃ v H', St C l H ⟨d, op, g⟩ v H' ∧ Wd C ls hv (putl l d v) H' (K' v) :=
  ⟨v, H', St.val (o := ⟨d, op, g⟩) hg h, hk⟩

/-- A store of a whole block, within a region that draws. -/
theorem Wd.stA {K' : AV → TL → AH → List AH → List (TL × AV) → Prop} {n : Nat} {x y : Opd} {X e fl : Nat} {u : AV} {c vs : List AV} (hx : evL l x = some (.ptr X 0)) (hy : evL l y = some u) (hu : u.cells = vs) (hn : vs.length = n)
    (hg : H.get X = some (.cells c e fl)) (hf : Nat.ble fl 1 = true) (hone : vs.all AV.one = true) (hl : vs.length = c.length)
    (hk : ∀ H', H'.next = H.next → H'.get X = some (.cells vs e fl) → (∀ Y, Y ≠ X → H'.get Y = H.get Y) → Wd C ls hv (putl l d .und) H' (K' .und)) :
    ∃ v H', St C l H ⟨d, .stn n x y, none⟩ v H' ∧ Wd C ls hv (putl l d v) H' (K' v) := by
  subst hu
  exact Wd.val rfl (.stn hx hy (by rw [hn]; exact Nat.beq_refl n) (AH.wr_all hg (Nat.le_of_ble_eq_true hf) hone hl)) (hk _ (AH.next_set _ _ _) (AH.get_set_self _ _ _) fun Y hY => AH.get_set_ne _ _ hY)

theorem Wo.allocn {Q : AEx → ASt → Prop} {e : Nat} {zs : List AV} (hone : zs.all AV.one = true)
    (hk : ∀ H', H'.next = H.next + 1 → H'.get H.next = some (.cells zs e 0) → (∀ Y, Y ≠ H.next → H'.get Y = H.get Y) → Wo C ops (putl l d (.ptr H.next 0)) df H' Q) :
    Wo C (⟨d, .alloc e zs, none⟩ :: ops) l df H Q :=
  Wo.val rfl (.alloc hone) (hk _ (AH.next_push _ _) (AH.get_push_self _ _) fun Y hY => AH.get_push_ne _ _ hY)

theorem binV_int {op : BinOp} {k j : IntKind} {a b : Int} {e : EK} (ho : op = .eql ∨ op = .neq) : binV C H op e (.int k a) (.int j b) = if k = j then intOp op k a b else none := by
  have h1 : binC op (AV.int k a) (AV.int j b) = none := rfl
  have h2 : binY H op (AV.int k a) (AV.int j b) = none := by rcases ho with rfl | rfl <;> rfl
  unfold binV
  rw [h1, h2]
  rcases ho with rfl | rfl <;> rfl
theorem binV_eqT {k : IntKind} {a b : Int} (h : a = b) : binV C H .eql .int (.int k a) (.int k b) = some (.bool true) := by
  subst h
  rw [binV_int (.inl rfl), if_pos rfl]
  simp [intOp]
theorem binV_eqF {k : IntKind} {a b : Int} (h : a ≠ b) : binV C H .eql .int (.int k a) (.int k b) = some (.bool false) := by
  rw [binV_int (.inl rfl), if_pos rfl]
  simp [intOp, h]
theorem binV_s {op : BinOp} {a b : List UInt8} {e : EK} : binV C H op e (.str a) (.str b) = strOp op a b := by
  have h1 : binC op (AV.str a) (AV.str b) = none := rfl
  have h2 : binY H op (AV.str a) (AV.str b) = none := by cases op <;> rfl
  unfold binV
  rw [h1, h2]
  rfl
theorem binV_sT {a b : List UInt8} (h : strEq a b = true) : binV C H .eql .str (.str a) (.str b) = some (.bool true) := by
  rw [binV_s]
  simp [strOp, h]
theorem binV_sF {a b : List UInt8} (h : strEq a b = false) : binV C H .eql .str (.str a) (.str b) = some (.bool false) := by
  rw [binV_s]
  simp [strOp, h]
end
end Go.Vd
