/-
  No cell of these rows narrows 'for every input' (looked for: loops, veiled, ifaces, maps, wideKeys, modest, calm, conditions, laid).
  DERIVED. THE GIVEN ROWS OF THIS SEAT. 9 by the template 'for every input the law returns true; each argument reads behind the call as it read before'; 0 by the template 'total and deterministic' (their statements: YtldoaopkpoojfaaTotals.lean).
  GIVEN WITH THE SEED: the statements are not yours to turn. If you find one false, say at which input.
  Laid BY PROGRAM, IN A SANDBOX (cutbox-rows.mjs): the forced cells as the released guide's own fill.sh prints them over the translation da0e79ecc1432b35… (all of the seat's roots in one cut). By AI agents, Wed Nov 11 2026. No macro, syntax, notation, axiom, sorry.
-/
import Derived.Test.YtldoaopkpoojfaaChecked
import GoSem.Claim
import GoSem.ClaimJoined
import GoSem.ClaimMapViews
import Derived.JoinedTies
import Derived.KernelRfl
namespace Go.Proofs.Ytldoaopkpoojfaa
/- THE CELL 'sum', in the pinned program and in every row, IS THE sha256 OF THE DUMP (.gsa) THAT YtldoaopkpoojfaaProg.lean LOADS. Nothing in Lean hashes anything: it is a label: what it is worth is what the hold of that sum in a sandbox is worth. -/
noncomputable def Try.pinned : Pinned := { name := "ytldoaopkpoojfaa", sum := "da0e79ecc1432b35405f53327335204917328aafa98ba436975a095acdf19676", checked := Try.checked }
namespace Rows
def none {H : Type} : Left H := { results := [], args := [] }

/-- 'waymarklaw01.OctetParts': WHATEVER THE INPUT: true; the input reads as it did. -/
def octetPartsSpec : ChangeSpec := { name := "octetParts", fn := fun _ => fun
  | [d1, d2, d3] => { results := [.lit (.bool true)], args := [d1, d2, d3] }
  | _ => none }
def octetPartsRow : OpenClaim := { program := "ytldoaopkpoojfaa", sum := "da0e79ecc1432b35405f53327335204917328aafa98ba436975a095acdf19676", func := "waymark/waymarklaw01.OctetParts", spec := "octetParts", apart := false }
def OctetPartsSaid : Prop := octetPartsRow.holds Try.pinned (OpenSpec.ofChange octetPartsSpec)

/-- ITS FALSE NEIGHBOUR: 'it returns false'. Refute it at one input. -/
def octetPartsWrong : ChangeSpec := { name := "octetParts", fn := fun _ => fun
  | [d1, d2, d3] => { results := [.lit (.bool false)], args := [d1, d2, d3] }
  | _ => none }
def OctetPartsWrongFalsely : Prop := octetPartsRow.holds Try.pinned (OpenSpec.ofChange octetPartsWrong)

/-- 'waymarklaw01.OctetAdds': WHATEVER THE INPUT: true; the input reads as it did. -/
def octetAddsSpec : ChangeSpec := { name := "octetAdds", fn := fun _ => fun
  | [d1, d2, d3] => { results := [.lit (.bool true)], args := [d1, d2, d3] }
  | _ => none }
def octetAddsRow : OpenClaim := { program := "ytldoaopkpoojfaa", sum := "da0e79ecc1432b35405f53327335204917328aafa98ba436975a095acdf19676", func := "waymark/waymarklaw01.OctetAdds", spec := "octetAdds", apart := false }
def OctetAddsSaid : Prop := octetAddsRow.holds Try.pinned (OpenSpec.ofChange octetAddsSpec)

/-- ITS FALSE NEIGHBOUR: 'it returns false'. Refute it at one input. -/
def octetAddsWrong : ChangeSpec := { name := "octetAdds", fn := fun _ => fun
  | [d1, d2, d3] => { results := [.lit (.bool false)], args := [d1, d2, d3] }
  | _ => none }
def OctetAddsWrongFalsely : Prop := octetAddsRow.holds Try.pinned (OpenSpec.ofChange octetAddsWrong)

/-- 'waymarklaw01.OctetGrows': WHATEVER THE INPUT: true; the input reads as it did. -/
def octetGrowsSpec : ChangeSpec := { name := "octetGrows", fn := fun _ => fun
  | [d1, d2, d3] => { results := [.lit (.bool true)], args := [d1, d2, d3] }
  | _ => none }
def octetGrowsRow : OpenClaim := { program := "ytldoaopkpoojfaa", sum := "da0e79ecc1432b35405f53327335204917328aafa98ba436975a095acdf19676", func := "waymark/waymarklaw01.OctetGrows", spec := "octetGrows", apart := false }
def OctetGrowsSaid : Prop := octetGrowsRow.holds Try.pinned (OpenSpec.ofChange octetGrowsSpec)

/-- ITS FALSE NEIGHBOUR: 'it returns false'. Refute it at one input. -/
def octetGrowsWrong : ChangeSpec := { name := "octetGrows", fn := fun _ => fun
  | [d1, d2, d3] => { results := [.lit (.bool false)], args := [d1, d2, d3] }
  | _ => none }
def OctetGrowsWrongFalsely : Prop := octetGrowsRow.holds Try.pinned (OpenSpec.ofChange octetGrowsWrong)

/-- 'waymarklaw01.OctetSums': WHATEVER THE INPUT: true; the input reads as it did. -/
def octetSumsSpec : ChangeSpec := { name := "octetSums", fn := fun _ => fun
  | [d1, d2] => { results := [.lit (.bool true)], args := [d1, d2] }
  | _ => none }
def octetSumsRow : OpenClaim := { program := "ytldoaopkpoojfaa", sum := "da0e79ecc1432b35405f53327335204917328aafa98ba436975a095acdf19676", func := "waymark/waymarklaw01.OctetSums", spec := "octetSums", apart := false }
def OctetSumsSaid : Prop := octetSumsRow.holds Try.pinned (OpenSpec.ofChange octetSumsSpec)

/-- ITS FALSE NEIGHBOUR: 'it returns false'. Refute it at one input. -/
def octetSumsWrong : ChangeSpec := { name := "octetSums", fn := fun _ => fun
  | [d1, d2] => { results := [.lit (.bool false)], args := [d1, d2] }
  | _ => none }
def OctetSumsWrongFalsely : Prop := octetSumsRow.holds Try.pinned (OpenSpec.ofChange octetSumsWrong)

/-- 'waymarklaw01.OctetTurned': WHATEVER THE INPUT: true; the input reads as it did. -/
def octetTurnedSpec : ChangeSpec := { name := "octetTurned", fn := fun _ => fun
  | [d1, d2, d3, d4] => { results := [.lit (.bool true)], args := [d1, d2, d3, d4] }
  | _ => none }
def octetTurnedRow : OpenClaim := { program := "ytldoaopkpoojfaa", sum := "da0e79ecc1432b35405f53327335204917328aafa98ba436975a095acdf19676", func := "waymark/waymarklaw01.OctetTurned", spec := "octetTurned", apart := false }
def OctetTurnedSaid : Prop := octetTurnedRow.holds Try.pinned (OpenSpec.ofChange octetTurnedSpec)

/-- ITS FALSE NEIGHBOUR: 'it returns false'. Refute it at one input. -/
def octetTurnedWrong : ChangeSpec := { name := "octetTurned", fn := fun _ => fun
  | [d1, d2, d3, d4] => { results := [.lit (.bool false)], args := [d1, d2, d3, d4] }
  | _ => none }
def OctetTurnedWrongFalsely : Prop := octetTurnedRow.holds Try.pinned (OpenSpec.ofChange octetTurnedWrong)

/-- 'waymarklaw01.OctetLaid': WHATEVER THE INPUT: true; the input reads as it did. -/
def octetLaidSpec : ChangeSpec := { name := "octetLaid", fn := fun _ => fun
  | [d1, d2, d3] => { results := [.lit (.bool true)], args := [d1, d2, d3] }
  | _ => none }
def octetLaidRow : OpenClaim := { program := "ytldoaopkpoojfaa", sum := "da0e79ecc1432b35405f53327335204917328aafa98ba436975a095acdf19676", func := "waymark/waymarklaw01.OctetLaid", spec := "octetLaid", apart := false }
def OctetLaidSaid : Prop := octetLaidRow.holds Try.pinned (OpenSpec.ofChange octetLaidSpec)

/-- ITS FALSE NEIGHBOUR: 'it returns false'. Refute it at one input. -/
def octetLaidWrong : ChangeSpec := { name := "octetLaid", fn := fun _ => fun
  | [d1, d2, d3] => { results := [.lit (.bool false)], args := [d1, d2, d3] }
  | _ => none }
def OctetLaidWrongFalsely : Prop := octetLaidRow.holds Try.pinned (OpenSpec.ofChange octetLaidWrong)

/-- 'waymarklaw01.OctetNumbers': WHATEVER THE INPUT: true; the input reads as it did. -/
def octetNumbersSpec : ChangeSpec := { name := "octetNumbers", fn := fun _ => fun
  | [d1, d2, d3, d4] => { results := [.lit (.bool true)], args := [d1, d2, d3, d4] }
  | _ => none }
def octetNumbersRow : OpenClaim := { program := "ytldoaopkpoojfaa", sum := "da0e79ecc1432b35405f53327335204917328aafa98ba436975a095acdf19676", func := "waymark/waymarklaw01.OctetNumbers", spec := "octetNumbers", apart := false }
def OctetNumbersSaid : Prop := octetNumbersRow.holds Try.pinned (OpenSpec.ofChange octetNumbersSpec)

/-- ITS FALSE NEIGHBOUR: 'it returns false'. Refute it at one input. -/
def octetNumbersWrong : ChangeSpec := { name := "octetNumbers", fn := fun _ => fun
  | [d1, d2, d3, d4] => { results := [.lit (.bool false)], args := [d1, d2, d3, d4] }
  | _ => none }
def OctetNumbersWrongFalsely : Prop := octetNumbersRow.holds Try.pinned (OpenSpec.ofChange octetNumbersWrong)

/-- 'waymarklaw01.OctetNames': WHATEVER THE INPUT: true; the input reads as it did. -/
def octetNamesSpec : ChangeSpec := { name := "octetNames", fn := fun _ => fun
  | [d1, d2] => { results := [.lit (.bool true)], args := [d1, d2] }
  | _ => none }
def octetNamesRow : OpenClaim := { program := "ytldoaopkpoojfaa", sum := "da0e79ecc1432b35405f53327335204917328aafa98ba436975a095acdf19676", func := "waymark/waymarklaw01.OctetNames", spec := "octetNames", apart := false }
def OctetNamesSaid : Prop := octetNamesRow.holds Try.pinned (OpenSpec.ofChange octetNamesSpec)

/-- ITS FALSE NEIGHBOUR: 'it returns false'. Refute it at one input. -/
def octetNamesWrong : ChangeSpec := { name := "octetNames", fn := fun _ => fun
  | [d1, d2] => { results := [.lit (.bool false)], args := [d1, d2] }
  | _ => none }
def OctetNamesWrongFalsely : Prop := octetNamesRow.holds Try.pinned (OpenSpec.ofChange octetNamesWrong)

/-- 'waymarklaw01.OctetCut': WHATEVER THE INPUT: true; the input reads as it did. -/
def octetCutSpec : ChangeSpec := { name := "octetCut", fn := fun _ => fun
  | [d1, d2, d3] => { results := [.lit (.bool true)], args := [d1, d2, d3] }
  | _ => none }
def octetCutRow : OpenClaim := { program := "ytldoaopkpoojfaa", sum := "da0e79ecc1432b35405f53327335204917328aafa98ba436975a095acdf19676", func := "waymark/waymarklaw01.OctetCut", spec := "octetCut", apart := false }
def OctetCutSaid : Prop := octetCutRow.holds Try.pinned (OpenSpec.ofChange octetCutSpec)

/-- ITS FALSE NEIGHBOUR: 'it returns false'. Refute it at one input. -/
def octetCutWrong : ChangeSpec := { name := "octetCut", fn := fun _ => fun
  | [d1, d2, d3] => { results := [.lit (.bool false)], args := [d1, d2, d3] }
  | _ => none }
def OctetCutWrongFalsely : Prop := octetCutRow.holds Try.pinned (OpenSpec.ofChange octetCutWrong)

/- THE SECOND FORM. 'bulk': how many values and letters a reading holds, each counted each time it is reached (what is shared counts as often as it is met; a slice's spare places count too). A statement '..UptoSaid' is the law's where the arguments, and the package variables that the reading takes, are together of bulk at most 1048576: NARROWER than '..Said'. Prove '..Said' where nothing that the law and all that it calls make is longer than what came in: it says more and counts as full. Else prove '..UptoSaid'. A law counts once. -/
mutual
def uptoBulk {H : Type} : DataW H → Nat
  | .lit (.string bytes) => bytes.length + 1
  | .lit _ => 1
  | .nil => 1
  | .ptr d => uptoBulk d + 1
  | .slice elems spare => uptoBulkAll elems + uptoBulkAll spare + 1
  | .agg parts => uptoBulkAll parts + 1
  | .iface _ d => uptoBulk d + 1
  | .map entries => uptoBulkEntries entries + 1
  | .held _ => 1
def uptoBulkAll {H : Type} : List (DataW H) → Nat
  | [] => 0
  | d :: r => uptoBulk d + uptoBulkAll r
def uptoBulkEntries {H : Type} : List (Lit × DataW H) → Nat
  | [] => 0
  | x :: r => uptoBulkEntry x + uptoBulkEntries r
def uptoBulkEntry {H : Type} : Lit × DataW H → Nat
  | (.string bytes, d) => bytes.length + uptoBulk d + 1
  | (_, d) => uptoBulk d + 1
 end
def uptoSmall : (H : Type) → List (DataW H) → Bool := fun _ ds => decide (uptoBulkAll ds ≤ 1048576)
def OpenSpec.upto (s : _root_.Go.ChangeSpec) : _root_.Go.OpenSpec := { _root_.Go.OpenSpec.ofChange s with cond := some uptoSmall }

/-- 'waymarklaw01.OctetParts', WHERE WHAT IT READS IS OF BULK AT MOST 1048576: true; the input reads as it did. -/
def octetPartsUptoRow : OpenClaim := { program := "ytldoaopkpoojfaa", sum := "da0e79ecc1432b35405f53327335204917328aafa98ba436975a095acdf19676", func := "waymark/waymarklaw01.OctetParts", spec := "octetParts", apart := false, narrowed := true }
def OctetPartsUptoSaid : Prop := octetPartsUptoRow.holds Try.pinned (OpenSpec.upto octetPartsSpec)

/-- 'waymarklaw01.OctetAdds', WHERE WHAT IT READS IS OF BULK AT MOST 1048576: true; the input reads as it did. -/
def octetAddsUptoRow : OpenClaim := { program := "ytldoaopkpoojfaa", sum := "da0e79ecc1432b35405f53327335204917328aafa98ba436975a095acdf19676", func := "waymark/waymarklaw01.OctetAdds", spec := "octetAdds", apart := false, narrowed := true }
def OctetAddsUptoSaid : Prop := octetAddsUptoRow.holds Try.pinned (OpenSpec.upto octetAddsSpec)

/-- 'waymarklaw01.OctetGrows', WHERE WHAT IT READS IS OF BULK AT MOST 1048576: true; the input reads as it did. -/
def octetGrowsUptoRow : OpenClaim := { program := "ytldoaopkpoojfaa", sum := "da0e79ecc1432b35405f53327335204917328aafa98ba436975a095acdf19676", func := "waymark/waymarklaw01.OctetGrows", spec := "octetGrows", apart := false, narrowed := true }
def OctetGrowsUptoSaid : Prop := octetGrowsUptoRow.holds Try.pinned (OpenSpec.upto octetGrowsSpec)

/-- 'waymarklaw01.OctetSums', WHERE WHAT IT READS IS OF BULK AT MOST 1048576: true; the input reads as it did. -/
def octetSumsUptoRow : OpenClaim := { program := "ytldoaopkpoojfaa", sum := "da0e79ecc1432b35405f53327335204917328aafa98ba436975a095acdf19676", func := "waymark/waymarklaw01.OctetSums", spec := "octetSums", apart := false, narrowed := true }
def OctetSumsUptoSaid : Prop := octetSumsUptoRow.holds Try.pinned (OpenSpec.upto octetSumsSpec)

/-- 'waymarklaw01.OctetTurned', WHERE WHAT IT READS IS OF BULK AT MOST 1048576: true; the input reads as it did. -/
def octetTurnedUptoRow : OpenClaim := { program := "ytldoaopkpoojfaa", sum := "da0e79ecc1432b35405f53327335204917328aafa98ba436975a095acdf19676", func := "waymark/waymarklaw01.OctetTurned", spec := "octetTurned", apart := false, narrowed := true }
def OctetTurnedUptoSaid : Prop := octetTurnedUptoRow.holds Try.pinned (OpenSpec.upto octetTurnedSpec)

/-- 'waymarklaw01.OctetLaid', WHERE WHAT IT READS IS OF BULK AT MOST 1048576: true; the input reads as it did. -/
def octetLaidUptoRow : OpenClaim := { program := "ytldoaopkpoojfaa", sum := "da0e79ecc1432b35405f53327335204917328aafa98ba436975a095acdf19676", func := "waymark/waymarklaw01.OctetLaid", spec := "octetLaid", apart := false, narrowed := true }
def OctetLaidUptoSaid : Prop := octetLaidUptoRow.holds Try.pinned (OpenSpec.upto octetLaidSpec)

/-- 'waymarklaw01.OctetNumbers', WHERE WHAT IT READS IS OF BULK AT MOST 1048576: true; the input reads as it did. -/
def octetNumbersUptoRow : OpenClaim := { program := "ytldoaopkpoojfaa", sum := "da0e79ecc1432b35405f53327335204917328aafa98ba436975a095acdf19676", func := "waymark/waymarklaw01.OctetNumbers", spec := "octetNumbers", apart := false, narrowed := true }
def OctetNumbersUptoSaid : Prop := octetNumbersUptoRow.holds Try.pinned (OpenSpec.upto octetNumbersSpec)

/-- 'waymarklaw01.OctetNames', WHERE WHAT IT READS IS OF BULK AT MOST 1048576: true; the input reads as it did. -/
def octetNamesUptoRow : OpenClaim := { program := "ytldoaopkpoojfaa", sum := "da0e79ecc1432b35405f53327335204917328aafa98ba436975a095acdf19676", func := "waymark/waymarklaw01.OctetNames", spec := "octetNames", apart := false, narrowed := true }
def OctetNamesUptoSaid : Prop := octetNamesUptoRow.holds Try.pinned (OpenSpec.upto octetNamesSpec)

/-- 'waymarklaw01.OctetCut', WHERE WHAT IT READS IS OF BULK AT MOST 1048576: true; the input reads as it did. -/
def octetCutUptoRow : OpenClaim := { program := "ytldoaopkpoojfaa", sum := "da0e79ecc1432b35405f53327335204917328aafa98ba436975a095acdf19676", func := "waymark/waymarklaw01.OctetCut", spec := "octetCut", apart := false, narrowed := true }
def OctetCutUptoSaid : Prop := octetCutUptoRow.holds Try.pinned (OpenSpec.upto octetCutSpec)

end Rows
end Go.Proofs.Ytldoaopkpoojfaa
