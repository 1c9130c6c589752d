/- StateApart: states that differ have unlike bytes. -/
import Derived.Test.YtdmfjpjhibhmhaaApi
import Derived.Test.YtdmfjpjhibhmhaaRows
import Derived.WalkKit
import Derived.JoinedCond

/- StateApart of layer 10's laws returns true for every state and two numbers, and leaves them as they were, where they are of bulk at most 1048576 together (no other condition). -/
namespace Go.Proofs.Ytdmfjpjhibhmhaa.apart
open Go.ChangeShapes Go.WideShapes Go.ChangeAt Go.RowKit Go.PK

/-- what the zero state reads as -/
def rep {H : Type} (n : Nat) (d : DataW H) : DataW H := .agg (List.replicate n d)
def n8 {H : Type} : DataW H := .lit (.int .u8 0)
def n64 {H : Type} : DataW H := .lit (.int .u64 0)
def ckD {H : Type} : DataW H := .agg [n64, rep 32 n8]
def commD {H : Type} : DataW H := .agg [rep 8 (rep 48 n8), rep 48 n8]
def zeroD {H : Type} : DataW H :=
  .agg [n64, rep 32 n8, n64, .agg [rep 4 n8, rep 4 n8, n64], .agg [n64, n64, rep 32 n8, rep 32 n8, rep 32 n8], rep 8 (rep 32 n8), rep 8 (rep 32 n8), .nil, .agg [rep 32 n8, n64, rep 32 n8], .nil, n64, .nil, .nil, rep 8 (rep 32 n8), rep 8 n64, .nil, .nil, rep 4 (.lit (.bool false)), ckD, ckD, ckD, .nil, commD, commD]

theorem own : ownKnob Try.prog.godebug = none := by kernel_rfl
theorem laid : laidOutB Try.prog = true := by kernel_rfl

set_option maxRecDepth 100000 in
theorem contract (H : Type) (enc : TypeId × Value → H) (W : World) (base : Nat) (args : Array Value) (ds gs : List (DataW H)) (before : List MemPlace)
    (hval : ∀ (j : Nat) t v, Try.f5.params[j]? = some t → args[j]? = some v → Value.okWide Try.prog W .any base t v)
    (hW : DataW.Whole enc Try.prog Try.f5.params.toList Rows.stateApartSpec.vars false W args.toList ds gs before) (hk : Rows.uptoSmall H (ds ++ gs) = true) :
    Calls Try.prog 5 args W fun e W' => ∃ v, e = .returned v ∧ Rows.stateApartSpec.post enc Try.prog Try.f5 false true false false W args v W' := by
  have hW' := hW
  obtain ⟨p, q, hA0, hV, rfl, hfz, hnd⟩ := hW
  have hA : DataW.TrodAll enc Try.prog W 0 (fun _ => true) true Try.f5.params.toList args.toList ds p := hA0
  rw [Try.params5] at hA hval
  obtain ⟨v0, vs0, d0, ds0, p0, q0, hargs0, rfl, rfl, h0, r0⟩ := trodAll_cons hA
  obtain ⟨v1, vs1, d1, ds1, p1, q1, hargs1, rfl, rfl, h1, r1⟩ := trodAll_cons r0
  obtain ⟨v2, vs2, d2, ds2, p2, q2, hargs2, rfl, rfl, h2, r2⟩ := trodAll_cons r1
  obtain ⟨hvs, rfl, rfl⟩ := trodAll_nil r2
  subst hvs
  obtain rfl : args = #[v0, v1, v2] := by cases args; simp_all
  obtain ⟨rfl, rfl⟩ := trodVars_none hV
  have hv0 : Value.okWide Try.prog W .any base 49 v0 := hval 0 49 v0 rfl rfl
  have hs0 := okWide_spot (P := Try.prog) (t := 49) hv0
  obtain ⟨cs0, rfl, hspot0⟩ := hs0
  have hr0 := Reads.ofAgg h0
  obtain ⟨x0, a0, rfl, hL0, hin0⟩ := readsState hr0 hspot0
  have hz0 : x0.Small := by
    obtain ⟨b1, b2, b3, b4, b5, b6, b7⟩ := bulk_state hin0
    have := Nat.le_trans (bulk_part (l := _) (d := d0) (by simp)) (bulk_bound hk)
    exact ⟨by omega, by omega, by omega, by omega, by omega, by omega, by omega⟩
  have hv1 : Value.okWide Try.prog W .any base 3 v1 := hval 1 3 v1 rfl rfl
  obtain ⟨n1, rfl, rfl, rfl, wf1⟩ := open_int (Und.h (P := Try.prog) (t := 3)) hv1 h1
  have w1 : -9223372036854775808 ≤ n1 ∧ n1 ≤ 9223372036854775807 := by simpa [Lit.wf, IntKind.min, IntKind.max, IntKind.signed, IntKind.bits] using wf1
  have hv2 : Value.okWide Try.prog W .any base 22 v2 := hval 2 22 v2 rfl rfl
  obtain ⟨m2, rfl, rfl, rfl, wf2⟩ := open_int (Und.h (P := Try.prog) (t := 22)) hv2 h2
  have w2 : 0 ≤ m2 ∧ m2 ≤ 18446744073709551615 := by simpa [Lit.wf, IntKind.min, IntKind.max, IntKind.signed, IntKind.bits] using wf2
  obtain ⟨u2, hu2⟩ : ∃ u : UInt64, (Value.int .u64 m2) = u64 u := ⟨UInt64.ofNat m2.toNat, by rw [u64, UInt64.toNat_ofNat_of_lt' (by show m2.toNat < 2 ^ 64; omega)]; congr 1; omega⟩
  have hcall2 := hu2
  have hC := lawApart W x0 a0 n1 u2 hL0 hz0 w1
  rw [← hu2] at hC
  refine hC.mono fun e W' hR => ?_
  cases e with
  | panicked c => exact hR.elim
  | outgrown => exact hR.elim
  | returned v =>
    obtain ⟨_, _, rfl, hm⟩ := hR
    exact ⟨_, rfl, postTrue (rt := 4) laid rfl (by kernel_rfl) hW' (by rw [Try.params5]; intro t ht; simp at ht; rcases ht with rfl | rfl | rfl <;> exact ⟨by kernel_rfl, of_decide_eq_true (by kernel_rfl)⟩) rfl hm⟩

set_option maxRecDepth 100000 in
theorem fits0 (j : Nat) (t : TypeId) (v : Value) (ht : Try.f5.params[j]? = some t) (hv : (#[aggS zeroState, .int .i64 0, .int .u64 0] : Array Value)[j]? = some v) (w : World) (r : Reach) (base : Nat) : Value.okWide Try.prog w r base t v := by
  rw [Try.params5] at ht
  match j, ht, hv with
  | 0, ht, hv =>
    obtain rfl := Option.some.inj ht
    obtain rfl := Option.some.inj hv
    exact fitState w r base
  | 1, ht, hv =>
    obtain rfl := Option.some.inj ht
    obtain rfl := Option.some.inj hv
    exact okInt (k := .i64) (t := 3) w r base
  | 2, ht, hv =>
    obtain rfl := Option.some.inj ht
    obtain rfl := Option.some.inj hv
    exact okInt (k := .u64) (t := 22) w r base

set_option maxRecDepth 100000 in
theorem lifted (os : Os) (started : os.Started) (H : Type) (enc : TypeId × Value → H) (F : Stop.Interp) :
    ReturnsInHanded {} Try.checked os 5 .any ((Rows.OpenSpec.upto Rows.stateApartSpec).pre6 enc Try.prog Try.f5 Rows.stateApartUptoRow.domain false) (((Rows.OpenSpec.upto Rows.stateApartSpec).at F).post enc Try.prog Try.f5 false true false false) := by
  refine returnsInHanded_of_cond (C := Try.checked) (s := Rows.OpenSpec.upto Rows.stateApartSpec) (k := Rows.uptoSmall) rfl own started (by kernel_rfl) Try.func5
    (witnessOf (enc := enc) (C := Try.checked) (os := os) (s := Rows.OpenSpec.upto Rows.stateApartSpec) (k := Rows.uptoSmall) rfl false #[aggS zeroState, .int .i64 0, .int .u64 0] 8 (by kernel_rfl) (by kernel_rfl)
      (by kernel_rfl) Try.func5 (by kernel_rfl) (by kernel_rfl) (by kernel_rfl) (by kernel_rfl) fits0
      (x := ([zeroD, .lit (.int .i64 0), n64], [], [])) (by kernel_rfl) rfl (by kernel_rfl) (by kernel_rfl)) ?_
  intro W base args ds gs before hval hW _ hk _
  exact contract H enc W base args ds gs before hval hW hk

theorem proved : Rows.StateApartUptoSaid :=
  OpenClaim.holds_of_cond 5 Try.f5 rfl rfl rfl rfl rfl rfl rfl ⟨rfl, rfl, rfl, rfl, rfl⟩ rfl rfl rfl rfl rfl (by kernel_rfl) Try.func5 (by kernel_rfl)
    (of_decide_eq_true (by kernel_rfl)) (by unfold Func.isWrapper; first | (rw [if_pos (by decide +kernel)]; kernel_rfl) | (rw [if_neg (by decide +kernel)]; exact ⟨rfl, rfl⟩))
    (fun os started H enc _ F => lifted os started H enc F)
end Go.Proofs.Ytdmfjpjhibhmhaa.apart
