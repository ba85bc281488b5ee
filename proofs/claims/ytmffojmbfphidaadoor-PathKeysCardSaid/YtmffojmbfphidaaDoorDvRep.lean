/- What abstract values say of the model's values and memory, and that it stays true while memory grows. -/
import Derived.Test.YtmffojmbfphidaaDoorDvCore
import Derived.WalkKit
set_option linter.all false
namespace Go.Dv
open Go.RowKit

/-- the cells `cs` lie in the world from `o` on in block `b` -/
def CellsAt (w : World) (b o : Nat) (cs : List Value) : Prop := ∀ j u, cs[j]? = some u → w.cell? ⟨b, o + j, none⟩ = some u

def getq {α : Type} (xs : List α) (i : Nat) : Option α := xs[i]?

def RepT (w : World) (S : Nat → Prop) : (t : Ty) → t.T → List Value → Prop
  | .int k, n, cs => cs = [.int k n]
  | .bool, b, cs => cs = [.bool b]
  | .str, s, cs => cs = [.string ⟨List.toArray s⟩]
  | .unit, _, cs => cs = []
  | .pair a b, x, cs => ∃ c d, cs = c ++ d ∧ RepT w S a x.1 c ∧ RepT w S b x.2 d
  | .list t, xs, cs => ∃ ao cap, cs = [.slice ao (List.length xs) cap] ∧ List.length xs ≤ cap ∧ (ao = none → cap = 0) ∧ (∀ a, ao = some a → a.spot = none) ∧
      (∀ i (x : t.T), getq (α := t.T) xs i = some x → ∃ a c, ao = some a ∧ S a.block ∧ RepT w S t x c ∧ CellsAt w a.block (a.off + i * t.size) c)

structure Loc where
  a : Option Addr
  cap : Nat

mutual
def RepA (w : World) (S : Nat → Prop) (γ : Nat → Loc) (m : Nat → Option MO) : AV → Value → Prop
  | .undef, _ => True
  | .int k n, v => v = .int k n
  | .bool b, v => v = .bool b
  | .str s, v => v = .string ⟨s.toArray⟩
  | .nils, v => v = .slice none 0 0
  | .nilp, v => v = .pointer none
  | .nilf, v => v = .nilFunc
  | .nili, v => v = .nilIface
  | .list t xs, v => RepT w S (.list t) xs [v]
  | .clip t xs, v => (∃ ao, v = .slice ao xs.length xs.length) ∧ RepT w S (.list t) xs [v]
  | .fresh _ _, _ => False
  | .own n, v => ∃ t xs s, m n = some (.sl t xs s) ∧ v = .slice (γ n).a xs.length (γ n).cap
  | .ptr n off, v => ∃ cs s b, m n = some (.box cs s) ∧ (γ n).a = some ⟨b, 0, none⟩ ∧ v = .pointer (some ⟨b, off, none⟩)
  | .oel n i off, v => ∃ t xs s b, m n = some (.sl t xs s) ∧ (γ n).a = some ⟨b, 0, none⟩ ∧ i < xs.length ∧ v = .pointer (some ⟨b, i * t.size + off, none⟩)
  | .yld n, v => ∃ id cs e l, m n = some (.rng id cs e) ∧ (γ n).a = some ⟨l, 0, none⟩ ∧ v = .func (.yield l) #[] #[]
  | .bx cs off, v => ∃ b vs, v = .pointer (some ⟨b, off, none⟩) ∧ S b ∧ RepAs w S γ m cs vs ∧ allOne cs = true ∧ CellsAt w b 0 vs
  | .ro t x off, v => ∃ b o cs, v = .pointer (some ⟨b, o + off, none⟩) ∧ S b ∧ RepT w S t x cs ∧ CellsAt w b o cs
  | .clo f caps, v => ∃ vs, v = .func (.func f) #[] (List.toArray vs) ∧ RepAs w S γ m caps vs
  | .iface t x, v => ∃ u, v = .iface t u ∧ RepA w S γ m x u
  | .agg cs, v => ∃ vs, v = .agg (List.toArray vs) ∧ RepAs w S γ m cs vs ∧ allOne cs = true
  | .tup cs, v => ∃ vs, v = .tuple (List.toArray vs) ∧ RepAs w S γ m cs vs
def RepAs (w : World) (S : Nat → Prop) (γ : Nat → Loc) (m : Nat → Option MO) : List AV → List Value → Prop
  | [], vs => vs = []
  | c :: cs, vs => ∃ u us, vs = u :: us ∧ RepA w S γ m c u ∧ RepAs w S γ m cs us
end

def MO.kind : MO → Nat × Nat
  | .box _ _ => (0, 0)
  | .sl t xs _ => (1 + t.size, xs.length)
  | .rng id _ _ => (0, 1 + id)

/-- each object is still one of its kind, at its place -/
def Keeps (m : Nat → Option MO) (γ : Nat → Loc) (m' : Nat → Option MO) (γ' : Nat → Loc) : Prop :=
  ∀ n o, m n = some o → ∃ o', m' n = some o' ∧ o'.kind = o.kind ∧ γ' n = γ n

theorem Keeps.refl (m : Nat → Option MO) (γ : Nat → Loc) : Keeps m γ m γ := fun _ o h => ⟨o, h, rfl, rfl⟩
theorem Keeps.trans {m m' m'' : Nat → Option MO} {γ γ' γ'' : Nat → Loc} (h : Keeps m γ m' γ') (h' : Keeps m' γ' m'' γ'') : Keeps m γ m'' γ'' := by
  intro n o ho
  obtain ⟨o', h1, h2, h3⟩ := h n o ho
  obtain ⟨o'', k1, k2, k3⟩ := h' n o' h1
  exact ⟨o'', k1, k2.trans h2, k3.trans h3⟩

theorem kind_box {o : MO} {cs : List AV} {s : Stat} (h : o.kind = (MO.box cs s).kind) : ∃ cs' s', o = .box cs' s' := by
  cases o with
  | box cs' s' => exact ⟨_, _, rfl⟩
  | sl t xs s' => simp only [MO.kind, Prod.mk.injEq] at h; omega
  | rng id cs' e => simp only [MO.kind, Prod.mk.injEq] at h; omega

theorem kind_sl {o : MO} {t : Ty} {xs : List t.T} {s : Stat} (h : o.kind = (MO.sl t xs s).kind) : ∃ t' xs' s', o = .sl t' xs' s' ∧ t'.size = t.size ∧ xs'.length = xs.length := by
  cases o with
  | box cs' s' => simp only [MO.kind, Prod.mk.injEq] at h; omega
  | sl t' xs' s' => simp only [MO.kind, Prod.mk.injEq] at h; exact ⟨_, _, _, rfl, by omega, by omega⟩
  | rng id cs e => simp only [MO.kind, Prod.mk.injEq] at h; omega

theorem kind_rng {o : MO} {id : Nat} {cs : List AV} {e : Option Nat} (h : o.kind = (MO.rng id cs e).kind) : ∃ cs' e', o = .rng id cs' e' := by
  cases o with
  | box cs' s' => simp only [MO.kind, Prod.mk.injEq] at h; omega
  | sl t xs s => simp only [MO.kind, Prod.mk.injEq] at h; omega
  | rng id' cs' e' =>
    simp only [MO.kind, Prod.mk.injEq] at h
    have : id' = id := by omega
    subst this
    exact ⟨_, _, rfl⟩

theorem CellsAt.mono {w w' : World} {b o : Nat} {cs : List Value} (h : CellsAt w b o cs) (hb : w'.heap[b]? = w.heap[b]?) : CellsAt w' b o cs := by
  intro j u hj
  rw [World.cell?_of_block (w := w) hb]
  exact h j u hj

theorem RepT.mono {w w' : World} {S S' : Nat → Prop} (hw : ∀ b, S b → w'.heap[b]? = w.heap[b]?) (hS : ∀ b, S b → S' b) :
    ∀ (t : Ty) (x : t.T) (cs : List Value), RepT w S t x cs → RepT w' S' t x cs
  | .int _, _, _, h => h
  | .bool, _, _, h => h
  | .str, _, _, h => h
  | .unit, _, _, h => h
  | .pair a b, x, cs, h => by
    obtain ⟨c, d, rfl, h1, h2⟩ := h
    exact ⟨c, d, rfl, RepT.mono hw hS a _ _ h1, RepT.mono hw hS b _ _ h2⟩
  | .list t, xs, cs, h => by
    obtain ⟨ao, cap, rfl, h1, h2, h3, h4⟩ := h
    refine ⟨ao, cap, rfl, h1, h2, h3, ?_⟩
    intro i x hx
    obtain ⟨a, c, e, hs, hr, hc⟩ := h4 i x hx
    exact ⟨a, c, e, hS _ hs, RepT.mono hw hS t _ _ hr, hc.mono (hw _ hs)⟩

mutual
theorem RepA.mono {w w' : World} {S S' : Nat → Prop} {γ γ' : Nat → Loc} {m m' : Nat → Option MO} (hw : ∀ b, S b → w'.heap[b]? = w.heap[b]?) (hS : ∀ b, S b → S' b) (hk : Keeps m γ m' γ') :
    ∀ (v : AV) (x : Value), RepA w S γ m v x → RepA w' S' γ' m' v x
  | .undef, _, _ => trivial
  | .int _ _, _, h => h
  | .bool _, _, h => h
  | .str _, _, h => h
  | .nils, _, h => h
  | .nilp, _, h => h
  | .nilf, _, h => h
  | .nili, _, h => h
  | .list t xs, v, h => RepT.mono hw hS (.list t) xs [v] h
  | .clip t xs, v, h => ⟨h.1, RepT.mono hw hS (.list t) xs [v] h.2⟩
  | .fresh _ _, _, h => h
  | .own n, v, h => by
    obtain ⟨t, xs, s, h1, h2⟩ := h
    obtain ⟨o', k1, k2, k3⟩ := hk n _ h1
    obtain ⟨t', xs', s', rfl, _, e⟩ := kind_sl k2
    exact ⟨t', xs', s', k1, by rw [k3, e]; exact h2⟩
  | .ptr n off, v, h => by
    obtain ⟨cs, s, b, h1, h2, h3⟩ := h
    obtain ⟨o', k1, k2, k3⟩ := hk n _ h1
    obtain ⟨cs', s', rfl⟩ := kind_box k2
    exact ⟨cs', s', b, k1, by rw [k3]; exact h2, h3⟩
  | .oel n i off, v, h => by
    obtain ⟨t, xs, s, b, h1, h2, h3, h4⟩ := h
    obtain ⟨o', k1, k2, k3⟩ := hk n _ h1
    obtain ⟨t', xs', s', rfl, e1, e2⟩ := kind_sl k2
    exact ⟨t', xs', s', b, k1, by rw [k3]; exact h2, by rw [e2]; exact h3, by rw [e1]; exact h4⟩
  | .yld n, v, h => by
    obtain ⟨id, cs, e, l, h1, h2, h3⟩ := h
    obtain ⟨o', k1, k2, k3⟩ := hk n _ h1
    obtain ⟨cs', e', rfl⟩ := kind_rng k2
    exact ⟨id, cs', e', l, k1, by rw [k3]; exact h2, h3⟩
  | .bx cs off, v, h => by
    obtain ⟨b, vs, h1, h2, h3, h4, h5⟩ := h
    exact ⟨b, vs, h1, hS _ h2, RepAs.mono hw hS hk cs vs h3, h4, h5.mono (hw _ h2)⟩
  | .ro t x off, v, h => by
    obtain ⟨b, o, cs, h1, h2, h3, h4⟩ := h
    exact ⟨b, o, cs, h1, hS _ h2, RepT.mono hw hS t x cs h3, h4.mono (hw _ h2)⟩
  | .clo f caps, v, h => by
    obtain ⟨vs, h1, h2⟩ := h
    exact ⟨vs, h1, RepAs.mono hw hS hk caps vs h2⟩
  | .iface t x, v, h => by
    obtain ⟨u, h1, h2⟩ := h
    exact ⟨u, h1, RepA.mono hw hS hk x u h2⟩
  | .agg cs, v, h => by
    obtain ⟨vs, h1, h2, h3⟩ := h
    exact ⟨vs, h1, RepAs.mono hw hS hk cs vs h2, h3⟩
  | .tup cs, v, h => by
    obtain ⟨vs, h1, h2⟩ := h
    exact ⟨vs, h1, RepAs.mono hw hS hk cs vs h2⟩
theorem RepAs.mono {w w' : World} {S S' : Nat → Prop} {γ γ' : Nat → Loc} {m m' : Nat → Option MO} (hw : ∀ b, S b → w'.heap[b]? = w.heap[b]?) (hS : ∀ b, S b → S' b) (hk : Keeps m γ m' γ') :
    ∀ (cs : List AV) (vs : List Value), RepAs w S γ m cs vs → RepAs w' S' γ' m' cs vs
  | [], _, h => h
  | c :: cs, vs, h => by
    obtain ⟨u, us, h1, h2, h3⟩ := h
    exact ⟨u, us, h1, RepA.mono hw hS hk c u h2, RepAs.mono hw hS hk cs us h3⟩
end

section lists
variable {w : World} {S : Nat → Prop} {γ : Nat → Loc} {m : Nat → Option MO}

theorem RepAs.length : ∀ {cs : List AV} {vs : List Value}, RepAs w S γ m cs vs → vs.length = cs.length
  | [], vs, h => by simp only [RepAs] at h; subst h; rfl
  | c :: cs, vs, h => by
    obtain ⟨u, us, rfl, _, h3⟩ := h
    simp [RepAs.length h3]

theorem RepAs.append : ∀ {cs ds : List AV} {vs us : List Value}, RepAs w S γ m cs vs → RepAs w S γ m ds us → RepAs w S γ m (cs ++ ds) (vs ++ us)
  | [], ds, vs, us, h, h' => by simp only [RepAs] at h; subst h; exact h'
  | c :: cs, ds, vs, us, h, h' => by
    obtain ⟨x, xs, rfl, h2, h3⟩ := h
    exact ⟨x, xs ++ us, rfl, h2, RepAs.append h3 h'⟩

theorem RepAs.get : ∀ {cs : List AV} {vs : List Value} {i : Nat} {c : AV}, RepAs w S γ m cs vs → cs[i]? = some c → ∃ u, vs[i]? = some u ∧ RepA w S γ m c u
  | [], _, _, _, _, e => by simp at e
  | d :: cs, vs, 0, c, h, e => by
    obtain ⟨u, us, rfl, h2, _⟩ := h
    simp at e; subst e
    exact ⟨u, rfl, h2⟩
  | d :: cs, vs, i + 1, c, h, e => by
    obtain ⟨u, us, rfl, _, h3⟩ := h
    obtain ⟨u', h4, h5⟩ := RepAs.get h3 (by simpa using e)
    exact ⟨u', by simpa using h4, h5⟩

theorem RepAs.drop : ∀ {cs : List AV} {vs : List Value} (n : Nat), RepAs w S γ m cs vs → RepAs w S γ m (cs.drop n) (vs.drop n)
  | _, _, 0, h => by simpa using h
  | [], vs, n + 1, h => by simp only [RepAs] at h; subst h; simp [RepAs]
  | c :: cs, vs, n + 1, h => by
    obtain ⟨u, us, rfl, _, h3⟩ := h
    simpa using RepAs.drop n h3

theorem RepAs.take : ∀ {cs : List AV} {vs : List Value} (n : Nat), RepAs w S γ m cs vs → RepAs w S γ m (cs.take n) (vs.take n)
  | _, _, 0, _ => by simp [RepAs]
  | [], vs, n + 1, h => by simp only [RepAs] at h; subst h; simp [RepAs]
  | c :: cs, vs, n + 1, h => by
    obtain ⟨u, us, rfl, h2, h3⟩ := h
    exact ⟨u, us.take n, by simp, h2, RepAs.take n h3⟩

theorem RepAs.map {ev : Operand → AV} {el : Operand → Value} (h : ∀ x, RepA w S γ m (ev x) (el x)) : ∀ (l : List Operand), RepAs w S γ m (l.map ev) (l.map el)
  | [] => rfl
  | x :: l => ⟨el x, l.map el, rfl, h x, RepAs.map h l⟩

theorem RepT.length : ∀ {t : Ty} {x : t.T} {cs : List Value}, RepT w S t x cs → cs.length = t.size
  | .int _, _, _, h => by simp only [RepT] at h; subst h; rfl
  | .bool, _, _, h => by simp only [RepT] at h; subst h; rfl
  | .str, _, _, h => by simp only [RepT] at h; subst h; rfl
  | .unit, _, _, h => by simp only [RepT] at h; subst h; rfl
  | .pair a b, x, cs, h => by
    obtain ⟨c, d, rfl, h1, h2⟩ := h
    simp [RepT.length h1, RepT.length h2, Ty.size]
  | .list t, xs, cs, h => by
    obtain ⟨ao, cap, rfl, _⟩ := h
    rfl

theorem RepT.enc : ∀ {t : Ty} {x : t.T} {cs : List Value}, RepT w S t x cs → RepAs w S γ m (enc t x) cs
  | .int _, _, _, h => ⟨_, [], h, rfl, rfl⟩
  | .bool, _, _, h => ⟨_, [], h, rfl, rfl⟩
  | .str, _, _, h => ⟨_, [], h, rfl, rfl⟩
  | .unit, _, _, h => h
  | .pair a b, x, cs, h => by
    obtain ⟨c, d, rfl, h1, h2⟩ := h
    exact RepAs.append (RepT.enc h1) (RepT.enc h2)
  | .list t, xs, cs, h => by
    obtain ⟨ao, cap, rfl, h1⟩ := h
    exact ⟨_, [], rfl, ⟨ao, cap, rfl, h1⟩, rfl⟩

theorem allOne_append (a b : List AV) : allOne (a ++ b) = (allOne a && allOne b) := by simp [allOne]

theorem allOne_enc : ∀ (t : Ty) (x : t.T), allOne (enc t x) = true
  | .int _, _ => rfl
  | .bool, _ => rfl
  | .str, _ => rfl
  | .unit, _ => rfl
  | .pair a b, x => by rw [enc, allOne_append, allOne_enc a, allOne_enc b]; rfl
  | .list _, _ => rfl

theorem one_cell {c : AV} {u : Value} (hc : c.one = true) (h : RepA w S γ m c u) : u.oneCell' = true := by
  cases c <;> simp only [AV.one, Bool.false_eq_true] at hc <;> simp only [RepA] at h
  case int => subst h; rfl
  case bool => subst h; rfl
  case str => subst h; rfl
  case nils => subst h; rfl
  case nilp => subst h; rfl
  case nilf => subst h; rfl
  case nili => subst h; rfl
  case list => obtain ⟨ao, cap, e, _⟩ := h; simp at e; subst e; rfl
  case clip => obtain ⟨⟨ao, rfl⟩, _⟩ := h; rfl
  case own => obtain ⟨_, _, _, _, rfl⟩ := h; rfl
  case ptr => obtain ⟨_, _, _, _, _, rfl⟩ := h; rfl
  case oel => obtain ⟨_, _, _, _, _, _, _, rfl⟩ := h; rfl
  case yld => obtain ⟨_, _, _, _, _, _, rfl⟩ := h; rfl
  case bx => obtain ⟨_, _, rfl, _⟩ := h; rfl
  case ro => obtain ⟨_, _, _, rfl, _⟩ := h; rfl
  case clo => obtain ⟨_, rfl, _⟩ := h; rfl
  case iface => obtain ⟨_, rfl, _⟩ := h; rfl

theorem all_one_cell : ∀ {cs : List AV} {vs : List Value}, allOne cs = true → RepAs w S γ m cs vs → ∀ u ∈ vs, u.oneCell' = true
  | [], vs, _, h => by simp only [RepAs] at h; subst h; simp
  | c :: cs, vs, ha, h => by
    obtain ⟨u, us, rfl, h2, h3⟩ := h
    simp only [allOne, List.all_cons, Bool.and_eq_true] at ha
    intro x hx
    rcases List.mem_cons.1 hx with rfl | hx
    · exact one_cell ha.1 h2
    · exact all_one_cell (by simpa [allOne] using ha.2) h3 x hx

end lists

end Go.Dv
