/- StateSizes of layer 10's laws returns true for every state, and leaves it as it was, where the state is of bulk at most 1048576 (no other condition). -/
import Derived.Test.YtdmfjpjhibhmhaaSzh
import Derived.Test.YtdmfjpjhibhmhaaRows
import Derived.WalkKit
import Derived.JoinedCond

/- StateSizes returns true for every state of bulk at most 1048576, and leaves it as it was. -/
namespace Go.Proofs.Ytdmfjpjhibhmhaa.sizes
open Go.ChangeShapes Go.WideShapes Go.ChangeAt Go.RowKit Go.PK

/-- what the zero state reads as -/
def rep {H : Type} (n : Nat) (d : DataW H) : DataW H := .agg (List.replicate n d)
def n8 {H : Type} : DataW H := .lit (.int .u8 0)
def n64 {H : Type} : DataW H := .lit (.int .u64 0)
def ckD {H : Type} : DataW H := .agg [n64, rep 32 n8]
def commD {H : Type} : DataW H := .agg [rep 8 (rep 48 n8), rep 48 n8]
def zeroD {H : Type} : DataW H :=
  .agg [n64, rep 32 n8, n64, .agg [rep 4 n8, rep 4 n8, n64], .agg [n64, n64, rep 32 n8, rep 32 n8, rep 32 n8], rep 8 (rep 32 n8), rep 8 (rep 32 n8), .nil, .agg [rep 32 n8, n64, rep 32 n8], .nil, n64, .nil, .nil, rep 8 (rep 32 n8), rep 8 n64, .nil, .nil, rep 4 (.lit (.bool false)), ckD, ckD, ckD, .nil, commD, commD]

theorem own : ownKnob Try.prog.godebug = none := by kernel_rfl
theorem laid : laidOutB Try.prog = true := by kernel_rfl

set_option maxRecDepth 100000 in
theorem contract (H : Type) (enc : TypeId × Value → H) (W : World) (base : Nat) (args : Array Value) (ds gs : List (DataW H)) (before : List MemPlace)
    (hval : ∀ (j : Nat) t v, Try.f6.params[j]? = some t → args[j]? = some v → Value.okWide Try.prog W .any base t v)
    (hW : DataW.Whole enc Try.prog Try.f6.params.toList Rows.stateSizesSpec.vars false W args.toList ds gs before) (hk : Rows.uptoSmall H (ds ++ gs) = true) :
    Calls Try.prog 6 args W fun e W' => ∃ v, e = .returned v ∧ Rows.stateSizesSpec.post enc Try.prog Try.f6 false true false false W args v W' := by
  have hW' := hW
  obtain ⟨p, q, hA0, hV, rfl, hfz, hnd⟩ := hW
  have hA : DataW.TrodAll enc Try.prog W 0 (fun _ => true) true Try.f6.params.toList args.toList ds p := hA0
  rw [Try.params6] at hA hval
  obtain ⟨v0, vs0, d0, ds0, p0, q0, hargs, rfl, rfl, h0, r0⟩ := trodAll_cons hA
  obtain ⟨rfl, rfl, rfl⟩ := trodAll_nil r0
  obtain rfl : args = #[v0] := by cases args; simp_all
  obtain ⟨rfl, rfl⟩ := trodVars_none hV
  have hv0 : Value.okWide Try.prog W .any base 49 v0 := hval 0 49 v0 rfl rfl
  clear hval
  have hs0 := okWide_spot (P := Try.prog) (t := 49) hv0
  obtain ⟨cs, rfl, hspot⟩ := hs0
  have hr := Reads.ofAgg h0
  obtain ⟨x, a, rfl, hL, hin⟩ := readsState hr hspot
  have hz : x.Small := by
    obtain ⟨b1, b2, b3, b4, b5, b6, b7⟩ := bulk_state hin
    have := bulk_head hk
    exact ⟨by omega, by omega, by omega, by omega, by omega, by omega, by omega⟩
  refine (lawSizes W x a hL hz).mono fun e W' hR => ?_
  cases e with
  | panicked c => exact hR.elim
  | outgrown => exact hR.elim
  | returned v =>
    obtain ⟨_, _, rfl, hm⟩ := hR
    exact ⟨_, rfl, postTrue (rt := 4) laid rfl (by kernel_rfl) hW' (by rw [Try.params6]; intro t ht; simp at ht; subst ht; exact ⟨by kernel_rfl, of_decide_eq_true (by kernel_rfl)⟩) rfl hm⟩

set_option maxRecDepth 100000 in
theorem fits0 (j : Nat) (t : TypeId) (v : Value) (ht : Try.f6.params[j]? = some t) (hv : (#[aggS zeroState] : Array Value)[j]? = some v) (w : World) (r : Reach) (base : Nat) : Value.okWide Try.prog w r base t v := by
  rw [Try.params6] at ht
  match j, ht, hv with
  | 0, ht, hv =>
    obtain rfl := Option.some.inj ht
    obtain rfl := Option.some.inj hv
    exact fitState w r base

set_option maxRecDepth 100000 in
theorem lifted (os : Os) (started : os.Started) (H : Type) (enc : TypeId × Value → H) (F : Stop.Interp) :
    ReturnsInHanded {} Try.checked os 6 .any ((Rows.OpenSpec.upto Rows.stateSizesSpec).pre6 enc Try.prog Try.f6 Rows.stateSizesUptoRow.domain false) (((Rows.OpenSpec.upto Rows.stateSizesSpec).at F).post enc Try.prog Try.f6 false true false false) := by
  refine returnsInHanded_of_cond (C := Try.checked) (s := Rows.OpenSpec.upto Rows.stateSizesSpec) (k := Rows.uptoSmall) rfl own started (by kernel_rfl) Try.func6
    (witnessOf (enc := enc) (C := Try.checked) (os := os) (s := Rows.OpenSpec.upto Rows.stateSizesSpec) (k := Rows.uptoSmall) rfl false #[aggS zeroState] 8 (by kernel_rfl) (by kernel_rfl)
      (by kernel_rfl) Try.func6 (by kernel_rfl) (by kernel_rfl) (by kernel_rfl) (by kernel_rfl) fits0
      (x := ([zeroD], [], [])) (by kernel_rfl) rfl (by kernel_rfl) (by kernel_rfl)) ?_
  intro W base args ds gs before hval hW _ hk _
  exact contract H enc W base args ds gs before hval hW hk

theorem proved : Rows.StateSizesUptoSaid :=
  OpenClaim.holds_of_cond 6 Try.f6 rfl rfl rfl rfl rfl rfl rfl ⟨rfl, rfl, rfl, rfl, rfl⟩ rfl rfl rfl rfl rfl (by kernel_rfl) Try.func6 (by kernel_rfl)
    (of_decide_eq_true (by kernel_rfl)) (by unfold Func.isWrapper; first | (rw [if_pos (by decide +kernel)]; kernel_rfl) | (rw [if_neg (by decide +kernel)]; exact ⟨rfl, rfl⟩))
    (fun os started H enc _ F => lifted os started H enc F)
end Go.Proofs.Ytdmfjpjhibhmhaa.sizes
