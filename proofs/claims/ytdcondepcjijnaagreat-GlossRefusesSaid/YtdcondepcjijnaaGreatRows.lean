/-
  No cell of these rows narrows 'for every input' (looked for: loops, veiled, ifaces, maps, wideKeys, modest, calm, conditions, laid).
  DERIVED. THE GIVEN ROWS OF THIS SEAT. 3 by the template 'for every input the law returns true; each argument reads behind the call as it read before'; 0 by the template 'total and deterministic' (their statements: YtdcondepcjijnaaGreatTotals.lean).
  GIVEN WITH THE SEED: the statements are not yours to turn. If you find one false, say at which input.
  Laid BY PROGRAM, IN A SANDBOX (cutbox-rows.mjs): the forced cells as the released guide's own fill.sh prints them over the translation 9f0dd60625623f8d… (all of the seat's roots in one cut). By AI agents, Wed Nov 11 2026. No macro, syntax, notation, axiom, sorry.
-/
import Derived.Test.YtdcondepcjijnaaGreatChecked
import GoSem.Claim
import GoSem.ClaimJoined
import GoSem.ClaimMapViews
import Derived.JoinedTies
import Derived.KernelRfl
namespace Go.Proofs.YtdcondepcjijnaaGreat
/- THE CELL 'sum', in the pinned program and in every row, IS THE sha256 OF THE DUMP (.gsa) THAT YtdcondepcjijnaaGreatProg.lean LOADS. Nothing in Lean hashes anything: it is a label: what it is worth is what the hold of that sum in a sandbox is worth. -/
noncomputable def Tryz.pinned : Pinned := { name := "ytdcondepcjijnaagreat", sum := "9f0dd60625623f8d09764fd0137440391eae38318d98ccc857027d8259136934", checked := Tryz.checked }
namespace Rows
def none {H : Type} : Left H := { results := [], args := [] }

/-- 'lecternlaw18.HedgeRefuses': WHATEVER THE INPUT: true; the input reads as it did. -/
def hedgeRefusesSpec : ChangeSpec := { name := "hedgeRefuses", fn := fun _ => fun
  | [d1, d2, d3] => { results := [.lit (.bool true)], args := [d1, d2, d3] }
  | _ => none }
def hedgeRefusesRow : OpenClaim := { program := "ytdcondepcjijnaagreat", sum := "9f0dd60625623f8d09764fd0137440391eae38318d98ccc857027d8259136934", func := "lectern/lecternlaw18.HedgeRefuses", spec := "hedgeRefuses", inPlace := ["internal/bytealg.Count", "internal/bytealg.IndexByte", "internal/bytealg.Index", "internal/bytealg.Compare", "slices.overlaps[[]byte]", "slices.overlaps[lectern/hedge.cell]", "slices.overlaps[int]"], unfollowed := true, recurses := true, named := ["internal/bytealg.MaxLen"], apart := false }
def HedgeRefusesSaid : Prop := hedgeRefusesRow.holds Tryz.pinned (OpenSpec.ofChange hedgeRefusesSpec)

/-- ITS FALSE NEIGHBOUR: 'it returns false'. Refute it at one input. -/
def hedgeRefusesWrong : ChangeSpec := { name := "hedgeRefuses", fn := fun _ => fun
  | [d1, d2, d3] => { results := [.lit (.bool false)], args := [d1, d2, d3] }
  | _ => none }
def HedgeRefusesWrongFalsely : Prop := hedgeRefusesRow.holds Tryz.pinned (OpenSpec.ofChange hedgeRefusesWrong)

/-- 'lecternlaw18.HedgePlays': WHATEVER THE INPUT: true; the input reads as it did. -/
def hedgePlaysSpec : ChangeSpec := { name := "hedgePlays", fn := fun _ => fun
  | [d] => { results := [.lit (.bool true)], args := [d] }
  | _ => none }
def hedgePlaysRow : OpenClaim := { program := "ytdcondepcjijnaagreat", sum := "9f0dd60625623f8d09764fd0137440391eae38318d98ccc857027d8259136934", func := "lectern/lecternlaw18.HedgePlays", spec := "hedgePlays", inPlace := ["internal/bytealg.Count", "internal/bytealg.IndexByte", "internal/bytealg.Index", "internal/bytealg.Compare", "slices.overlaps[[]byte]", "slices.overlaps[lectern/hedge.cell]", "slices.overlaps[int]"], unfollowed := true, recurses := true, named := ["internal/bytealg.MaxLen"], apart := false }
def HedgePlaysSaid : Prop := hedgePlaysRow.holds Tryz.pinned (OpenSpec.ofChange hedgePlaysSpec)

/-- ITS FALSE NEIGHBOUR: 'it returns false'. Refute it at one input. -/
def hedgePlaysWrong : ChangeSpec := { name := "hedgePlays", fn := fun _ => fun
  | [d] => { results := [.lit (.bool false)], args := [d] }
  | _ => none }
def HedgePlaysWrongFalsely : Prop := hedgePlaysRow.holds Tryz.pinned (OpenSpec.ofChange hedgePlaysWrong)

/-- 'lecternlaw19.GlossRefuses': WHATEVER THE INPUT: true; the input reads as it did. -/
def glossRefusesSpec : ChangeSpec := { name := "glossRefuses", fn := fun _ => fun
  | [d1, d2] => { results := [.lit (.bool true)], args := [d1, d2] }
  | _ => none }
def glossRefusesRow : OpenClaim := { program := "ytdcondepcjijnaagreat", sum := "9f0dd60625623f8d09764fd0137440391eae38318d98ccc857027d8259136934", func := "lectern/lecternlaw19.GlossRefuses", spec := "glossRefuses", inPlace := ["internal/bytealg.Count", "internal/bytealg.IndexByte", "internal/bytealg.Index", "internal/bytealg.Compare", "slices.overlaps[[]byte]", "slices.overlaps[lectern/hedge.cell]", "slices.overlaps[int]"], unfollowed := true, recurses := true, named := ["internal/bytealg.MaxLen"], apart := false }
def GlossRefusesSaid : Prop := glossRefusesRow.holds Tryz.pinned (OpenSpec.ofChange glossRefusesSpec)

/-- ITS FALSE NEIGHBOUR: 'it returns false'. Refute it at one input. -/
def glossRefusesWrong : ChangeSpec := { name := "glossRefuses", fn := fun _ => fun
  | [d1, d2] => { results := [.lit (.bool false)], args := [d1, d2] }
  | _ => none }
def GlossRefusesWrongFalsely : Prop := glossRefusesRow.holds Tryz.pinned (OpenSpec.ofChange glossRefusesWrong)

/- THE SECOND FORM. 'bulk': how many values and letters a reading holds, each counted each time it is reached (what is shared counts as often as it is met; a slice's spare places count too). A statement '..UptoSaid' is the law's where the arguments, and the package variables that the reading takes, are together of bulk at most 1048576: NARROWER than '..Said'. Prove '..Said' where nothing that the law and all that it calls make is longer than what came in: it says more and counts as full. Else prove '..UptoSaid'. A law counts once. -/
mutual
def uptoBulk {H : Type} : DataW H → Nat
  | .lit (.string bytes) => bytes.length + 1
  | .lit _ => 1
  | .nil => 1
  | .ptr d => uptoBulk d + 1
  | .slice elems spare => uptoBulkAll elems + uptoBulkAll spare + 1
  | .agg parts => uptoBulkAll parts + 1
  | .iface _ d => uptoBulk d + 1
  | .map entries => uptoBulkEntries entries + 1
  | .held _ => 1
def uptoBulkAll {H : Type} : List (DataW H) → Nat
  | [] => 0
  | d :: r => uptoBulk d + uptoBulkAll r
def uptoBulkEntries {H : Type} : List (Lit × DataW H) → Nat
  | [] => 0
  | x :: r => uptoBulkEntry x + uptoBulkEntries r
def uptoBulkEntry {H : Type} : Lit × DataW H → Nat
  | (.string bytes, d) => bytes.length + uptoBulk d + 1
  | (_, d) => uptoBulk d + 1
 end
def uptoSmall : (H : Type) → List (DataW H) → Bool := fun _ ds => decide (uptoBulkAll ds ≤ 1048576)
def OpenSpec.upto (s : _root_.Go.ChangeSpec) : _root_.Go.OpenSpec := { _root_.Go.OpenSpec.ofChange s with cond := some uptoSmall }

/-- 'lecternlaw18.HedgeRefuses', WHERE WHAT IT READS IS OF BULK AT MOST 1048576: true; the input reads as it did. -/
def hedgeRefusesUptoRow : OpenClaim := { program := "ytdcondepcjijnaagreat", sum := "9f0dd60625623f8d09764fd0137440391eae38318d98ccc857027d8259136934", func := "lectern/lecternlaw18.HedgeRefuses", spec := "hedgeRefuses", inPlace := ["internal/bytealg.Count", "internal/bytealg.IndexByte", "internal/bytealg.Index", "internal/bytealg.Compare", "slices.overlaps[[]byte]", "slices.overlaps[lectern/hedge.cell]", "slices.overlaps[int]"], unfollowed := true, recurses := true, named := ["internal/bytealg.MaxLen"], apart := false, narrowed := true }
def HedgeRefusesUptoSaid : Prop := hedgeRefusesUptoRow.holds Tryz.pinned (OpenSpec.upto hedgeRefusesSpec)

/-- 'lecternlaw18.HedgePlays', WHERE WHAT IT READS IS OF BULK AT MOST 1048576: true; the input reads as it did. -/
def hedgePlaysUptoRow : OpenClaim := { program := "ytdcondepcjijnaagreat", sum := "9f0dd60625623f8d09764fd0137440391eae38318d98ccc857027d8259136934", func := "lectern/lecternlaw18.HedgePlays", spec := "hedgePlays", inPlace := ["internal/bytealg.Count", "internal/bytealg.IndexByte", "internal/bytealg.Index", "internal/bytealg.Compare", "slices.overlaps[[]byte]", "slices.overlaps[lectern/hedge.cell]", "slices.overlaps[int]"], unfollowed := true, recurses := true, named := ["internal/bytealg.MaxLen"], apart := false, narrowed := true }
def HedgePlaysUptoSaid : Prop := hedgePlaysUptoRow.holds Tryz.pinned (OpenSpec.upto hedgePlaysSpec)

/-- 'lecternlaw19.GlossRefuses', WHERE WHAT IT READS IS OF BULK AT MOST 1048576: true; the input reads as it did. -/
def glossRefusesUptoRow : OpenClaim := { program := "ytdcondepcjijnaagreat", sum := "9f0dd60625623f8d09764fd0137440391eae38318d98ccc857027d8259136934", func := "lectern/lecternlaw19.GlossRefuses", spec := "glossRefuses", inPlace := ["internal/bytealg.Count", "internal/bytealg.IndexByte", "internal/bytealg.Index", "internal/bytealg.Compare", "slices.overlaps[[]byte]", "slices.overlaps[lectern/hedge.cell]", "slices.overlaps[int]"], unfollowed := true, recurses := true, named := ["internal/bytealg.MaxLen"], apart := false, narrowed := true }
def GlossRefusesUptoSaid : Prop := glossRefusesUptoRow.holds Tryz.pinned (OpenSpec.upto glossRefusesSpec)

end Rows
end Go.Proofs.YtdcondepcjijnaaGreat
