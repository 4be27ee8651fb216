/- What is laid is parsed as it was; all eight bytes are a request's. -/
import Derived.Test.YtmlfojdgfimfbaaLaw15
namespace Go.Proofs.Ytmlfojdgfimfbaa
open Go Go.Re
set_option linter.unusedVariables false
set_option linter.unusedSimpArgs false
theorem req_ok (a b c d e f g h : BitVec 8) : okR (req8 a b c d e f g h) := by
  have := a.isLt; have := b.isLt; have := c.isLt; have := d.isLt; have := e.isLt; have := f.isLt; have := g.isLt; have := h.isLt
  refine ⟨?_, ?_, ?_, ?_, ?_⟩ <;> simp only [req8] <;> omega
theorem lo_of (a b : BitVec 8) : lo ((a.toNat : Int) + 256 * (b.toNat : Int)) = a := by
  have := a.isLt; have := b.isLt
  apply bv8; rw [lo_nat]; omega
theorem hi_of (a b : BitVec 8) : hi ((a.toNat : Int) + 256 * (b.toNat : Int)) = b := by
  have := a.isLt; have := b.isLt
  apply bv8; rw [hi_nat]; omega
theorem lo_one (a : BitVec 8) : lo (a.toNat : Int) = a := by
  have := a.isLt
  apply bv8; rw [lo_nat]; omega
theorem bytes_req (a b c d e f g h : BitVec 8) : bytesR (req8 a b c d e f g h) = [a, b, c, d, e, f, g, h] := by
  simp only [bytesR, req8, lo_of, hi_of, lo_one]
theorem req_bytes (x : Rq) (hx : okR x) : req8 (lo x.1) (lo x.2.1) (lo x.2.2.1) (hi x.2.2.1) (lo x.2.2.2.1) (hi x.2.2.2.1) (lo x.2.2.2.2.1) (hi x.2.2.2.2.1) = x := by
  obtain ⟨t, c, v, i, l, u⟩ := x
  obtain ⟨h1, h2, h3, h4, h5⟩ := hx
  simp only at h1 h2 h3 h4 h5
  simp only [req8, lo_nat, hi_nat, Prod.mk.injEq]
  refine ⟨by omega, by omega, by omega, by omega, by omega, trivial⟩
theorem SetupBack_pure (x) (_ : Ty.ok (.st (.pair (.int .i64) (.pair (.int .i64) (.pair (.int .i64) (.pair (.int .i64) (.pair (.int .i64) .unit)))))) x.1) (h2 : Ty.ok (.arr 8 (.int .u8)) x.2) : reticulelaw15_SetupBack x = some true := by
  obtain ⟨r, y⟩ := x
  obtain ⟨hl, _⟩ := h2
  obtain ⟨a, b, c, d, e, f, g, i, rfl⟩ := eight y hl
  have c8 : ([a, b, c, d, e, f, g, i] : List (BitVec 8)).length ≤ lim := (show 8 ≤ 2147483648 by omega)
  simp only [reticulelaw15_SetupBack, alive_ok, Option.bind_some, Bool.not_true, cond_false, parse8, bytes_eq, if_pos (req_ok a b c d e f g i), bytes_req, chk_dec c8, show chk true = some () from rfl, decide_true, cond_true]
  by_cases h : okR r
  · simp only [if_pos h]
    rw [show setup_Parse (bytesR r) = some (r, true) by
      have := parse8 (lo r.1) (lo r.2.1) (lo r.2.2.1) (hi r.2.2.1) (lo r.2.2.2.1) (hi r.2.2.2.1) (lo r.2.2.2.2.1) (hi r.2.2.2.2.1)
      rw [req_bytes r h] at this
      exact this]
    simp only [cond_true, Option.bind_some, Bool.not_true, cond_false, rq_eq, Bool.and_self, Bool.not_true, show decide ((((bytesR r).length : Nat) : Int) = 8) = true from rfl, jn_inl, parse8, if_pos (req_ok a b c d e f g i), bytes_req, chk_dec c8, decide_true]
  · simp only [if_neg h, cond_false, jn_inl, Option.bind_some, parse8, if_pos (req_ok a b c d e f g i), bytes_req, chk_dec c8, decide_true, cond_true]
end Go.Proofs.Ytmlfojdgfimfbaa
