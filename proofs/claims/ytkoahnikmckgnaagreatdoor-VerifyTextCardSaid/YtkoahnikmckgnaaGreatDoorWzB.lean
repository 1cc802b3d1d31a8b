/- crc.shift, known for every register. -/
import Derived.Test.YtkoahnikmckgnaaGreatDoorWzA
set_option linter.unusedSimpArgs false
set_option linter.unusedVariables false
namespace Go.Proofs.YtkoahnikmckgnaaGreatDoor.Ws
open Go Go.Proofs Go.RowKit
noncomputable section
set_option maxRecDepth 100000

/-- one step as the machine makes it -/
def shI (r : Int) : Int := intXor .u32 (shrI .u32 r 1) (intAnd .u32 (wrapFast .u32 (Int.sub 0 (intAnd .u32 r 1))) 3988292384)

def shN (n : Nat) : Nat := Nat.xor (Nat.shiftRight n (nat_lit 1)) (Bool.rec (motive := fun _ => Nat) (nat_lit 0) (nat_lit 3988292384) (Nat.beq (Nat.mod n (nat_lit 2)) (nat_lit 1)))

theorem shI_run (r : Int) : runFn E0 (aexec E0 200) 214 [.raw (.int .u32 r)] AH.zero = some (.raw (.int .u32 (shI (shI (shI (shI (shI (shI (shI (shI r))))))))), AH.zero) := by kernel_rfl

theorem wrap_u32 {n : Nat} (h : n < 4294967296) : IntKind.wrap .u32 (n : Int) = n := by
  have e1 : IntKind.signed .u32 = false := rfl
  have e2 : IntKind.bits .u32 = 32 := rfl
  unfold IntKind.wrap
  simp only [e1, e2, Bool.false_and, Bool.false_eq_true, if_false]
  omega

theorem bv_and1 (n : Nat) : (BitVec.ofNat 32 n &&& BitVec.ofInt 32 1).toNat = n % 2 := by
  have e : (BitVec.ofInt 32 1).toNat = 1 := by decide
  rw [BitVec.toNat_and, e, BitVec.toNat_ofNat, Nat.and_one_is_mod]
  omega

theorem shI_nat {n : Nat} (h : n < 4294967296) : shI (n : Int) = shN n ∧ shN n < 4294967296 := by
  have e0 : shrI .u32 (n : Int) 1 = ((n / 2 : Nat) : Int) := rfl
  have e1 : intAnd .u32 (n : Int) 1 = ((n % 2 : Nat) : Int) := by
    rw [intAnd_eqn]
    show IntKind.wrap .u32 (BitVec.ofInt 32 (n : Int) &&& BitVec.ofInt 32 1).toNat = _
    rw [show BitVec.ofInt 32 (n : Int) = BitVec.ofNat 32 n by simp, bv_and1, wrap_u32 (by omega)]
  have hlt : ∀ c : Nat, c < 4294967296 → (n / 2) ^^^ c < 4294967296 := fun c hc => Nat.xor_lt_two_pow (n := 32) (by omega) hc
  have hx : ∀ c : Nat, c < 4294967296 → intXor .u32 ((n / 2 : Nat) : Int) (c : Int) = ((n / 2) ^^^ c : Nat) := by
    intro c hc
    rw [intXor_eqn]
    show IntKind.wrap .u32 (BitVec.ofInt 32 ((n / 2 : Nat) : Int) ^^^ BitVec.ofInt 32 (c : Int)).toNat = _
    rw [BitVec.toNat_xor, BitVec.ofInt_natCast, BitVec.ofInt_natCast, BitVec.toNat_ofNat, BitVec.toNat_ofNat, Nat.mod_eq_of_lt (by omega), Nat.mod_eq_of_lt hc, wrap_u32 (hlt c hc)]
  rcases Nat.mod_two_eq_zero_or_one n with hn | hn
  · have hN : shN n = (n / 2) ^^^ 0 := by
      show Nat.xor (Nat.shiftRight n 1) (Bool.rec (motive := fun _ => Nat) 0 3988292384 (Nat.beq (n % 2) 1)) = _
      rw [hn]; rfl
    rw [hN]
    refine ⟨?_, hlt 0 (by omega)⟩
    unfold shI
    rw [e0, e1, hn]
    exact hx 0 (by omega)
  · have hN : shN n = (n / 2) ^^^ 3988292384 := by
      show Nat.xor (Nat.shiftRight n 1) (Bool.rec (motive := fun _ => Nat) 0 3988292384 (Nat.beq (n % 2) 1)) = _
      rw [hn]; rfl
    rw [hN]
    refine ⟨?_, hlt _ (by omega)⟩
    unfold shI
    rw [e0, e1, hn]
    exact hx 3988292384 (by omega)

def sh8 (n : Nat) : Nat := shN (shN (shN (shN (shN (shN (shN (shN n)))))))

theorem sh8_run {n : Nat} (h : n < 4294967296) : runFn E0 (aexec E0 200) 214 [.raw (.int .u32 (.ofNat n))] AH.zero = some (.raw (.int .u32 (.ofNat (sh8 n))), AH.zero) := by
  have h0 := shI_nat h
  have h1 := shI_nat h0.2
  have h2 := shI_nat h1.2
  have h3 := shI_nat h2.2
  have h4 := shI_nat h3.2
  have h5 := shI_nat h4.2
  have h6 := shI_nat h5.2
  have h7 := shI_nat h6.2
  have := shI_run (n : Int)
  rw [h0.1, h1.1, h2.1, h3.1, h4.1, h5.1, h6.1, h7.1] at this
  exact this

/-- crc.shift, at every register -/
def shO : List AV → Option Value
  | [.raw (.int .u32 (.ofNat n))] => match Nat.blt n 4294967296 with
    | true => some (.int .u32 (.ofNat (sh8 n)))
    | false => none
  | _ => none

def shOrc (f : Nat) (args : List AV) : Option Value :=
  match Nat.beq f 214 with
  | true => shO args
  | false => none

theorem shOrc_ok (W0 : World) : OrcOk Tryz.prog W0 shOrc := by
  intro f args r h L vs w hv hw
  unfold shOrc at h
  split at h
  · rename_i e
    have := nbeq_iff.1 e
    subst this
    unfold shO at h
    split at h
    · rename_i n
      split at h
      · rename_i hb
        cases h
        cases hv with
        | cons h1 h2 =>
          cases h2
          rw [h1.raw_inv]
          have hr := sh8_run (blt_iff.1 hb)
          obtain ⟨k1, k2⟩ := ground_ends (args := [.int .u32 (.ofNat n)]) (E0_ok w) hr
          refine .inr ⟨k1, k2.mono fun e w' he => ?_⟩
          obtain ⟨y, L', rfl, g1, g2, g3, g4⟩ := he
          exact ⟨by rw [g4.raw_inv], g2.below⟩
      · cases h
    · cases h
  · cases h

def E1 : Env := mkE shOrc (fun _ _ => none)
theorem E1_ok (W0 : World) : E1.Ok Tryz.prog W0 := mkE_ok (shOrc_ok W0) TplOk.none

end
end Go.Proofs.YtkoahnikmckgnaaGreatDoor.Ws
