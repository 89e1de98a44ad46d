/- Helpers for the table of types. -/
import Derived.Test.YthhddlhgkejhbaaStAbsS
namespace Go.Ab
theorem TGood.of_facts {P : Program} {t : TypeId} {ti : TI} (d : TypeDesc) (hd : P.underlying t = some d) (hf : ti.u.Fits d) (i : TypeInfo) (hi : P.info? t = some i) (hs : i.size = ti.size) (hb : i.bytes = ti.bytes) (z : Value) (hz : i.zero = some z) (hzc : z.cells.toList = ti.zero)
    (hp : (!ti.plain || (!P.stoodInHeld t && !P.eqGuardType P.depth t)) = true) (hc : (!ti.conc || P.concrete t) = true) (hl : ti.zero.length = ti.size)
    (hk : (match ti.u with | .struct fs => fs.all (fun f => (P.info? f.2).isSome) | _ => true) = true) : TGood P t ti where
  und := ⟨d, hd, hf⟩
  info := ⟨i, hi, hs, hb, z, hz, hzc⟩
  plain := fun h => by rw [h] at hp; simpa using hp
  conc := fun h => by rw [h] at hc; simpa using hc
  zlen := hl
  kids := fun fs h f hfm => by
    rw [h] at hk
    have := List.all_eq_true.1 hk f hfm
    exact Option.isSome_iff_exists.1 this

def TyOkFrom (P : Program) : Nat → Tys → Prop
  | _, [] => True
  | n, none :: r => TyOkFrom P (n + 1) r
  | n, some ti :: r => TGood P n ti ∧ TyOkFrom P (n + 1) r

theorem tyOk_from {P : Program} : ∀ (G : Tys) (n : Nat), TyOkFrom P n G → ∀ (t : Nat) ti, G[t]? = some (some ti) → TGood P (n + t) ti
  | [], n, _, t, ti, h => by simp at h
  | none :: r, n, hG, t, ti, h => by
    cases t with
    | zero => simp at h
    | succ t => have := tyOk_from r (n + 1) hG t ti (by simpa using h); rwa [Nat.add_assoc, Nat.add_comm 1 t] at this
  | some x :: r, n, hG, t, ti, h => by
    cases t with
    | zero => simp at h; subst h; exact hG.1
    | succ t => have := tyOk_from r (n + 1) hG.2 t ti (by simpa using h); rwa [Nat.add_assoc, Nat.add_comm 1 t] at this
theorem tyOk_of {P : Program} {G : Tys} (h : TyOkFrom P 0 G) : TyOk P G := fun t ti ht => by
  have := tyOk_from G 0 h t ti ht
  rwa [Nat.zero_add] at this
end Go.Ab
