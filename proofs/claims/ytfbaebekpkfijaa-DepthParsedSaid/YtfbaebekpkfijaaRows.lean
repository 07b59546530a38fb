/-
  No cell of these rows narrows 'for every input' (looked for: loops, veiled, ifaces, maps, wideKeys, modest, calm, conditions, laid).
  DERIVED. THE GIVEN ROWS OF THIS SEAT. 28 by the template 'for every input the law returns true; each argument reads behind the call as it read before'; 0 by the template 'total and deterministic' (their statements: YtfbaebekpkfijaaTotals.lean).
  GIVEN WITH THE SEED: the statements are not yours to turn. If you find one false, say at which input.
  Laid BY PROGRAM, IN A SANDBOX (cutbox-rows.mjs): the forced cells as the released guide's own fill.sh prints them over the translation 14e0507c2489584e… (all of the seat's roots in one cut). By AI agents, Wed Nov 11 2026. No macro, syntax, notation, axiom, sorry.
-/
import Derived.Test.YtfbaebekpkfijaaChecked
import GoSem.Claim
import GoSem.ClaimJoined
import GoSem.ClaimMapViews
import Derived.JoinedTies
import Derived.KernelRfl
namespace Go.Proofs.Ytfbaebekpkfijaa
/- THE CELL 'sum', in the pinned program and in every row, IS THE sha256 OF THE DUMP (.gsa) THAT YtfbaebekpkfijaaProg.lean LOADS. Nothing in Lean hashes anything: it is a label: what it is worth is what the hold of that sum in a sandbox is worth. -/
noncomputable def Try.pinned : Pinned := { name := "ytfbaebekpkfijaa", sum := "14e0507c2489584efa2f0f049fde0bd2499241e8f91246690b176ffb84b20648", checked := Try.checked }
namespace Rows
def none {H : Type} : Left H := { results := [], args := [] }

/-- 'copperplatelaw11.RuleTells': WHATEVER THE INPUT: true; the input reads as it did. -/
def ruleTellsSpec : ChangeSpec := { name := "ruleTells", fn := fun _ => fun
  | [d1, d2, d3] => { results := [.lit (.bool true)], args := [d1, d2, d3] }
  | _ => none }
def ruleTellsRow : OpenClaim := { program := "ytfbaebekpkfijaa", sum := "14e0507c2489584efa2f0f049fde0bd2499241e8f91246690b176ffb84b20648", func := "copperplate/copperplatelaw11.RuleTells", spec := "ruleTells", unfollowed := true, recurses := true, apart := false }
def RuleTellsSaid : Prop := ruleTellsRow.holds Try.pinned (OpenSpec.ofChange ruleTellsSpec)

/-- ITS FALSE NEIGHBOUR: 'it returns false'. Refute it at one input. -/
def ruleTellsWrong : ChangeSpec := { name := "ruleTells", fn := fun _ => fun
  | [d1, d2, d3] => { results := [.lit (.bool false)], args := [d1, d2, d3] }
  | _ => none }
def RuleTellsWrongFalsely : Prop := ruleTellsRow.holds Try.pinned (OpenSpec.ofChange ruleTellsWrong)

/-- 'copperplatelaw11.RuleOf': WHATEVER THE INPUT: true; the input reads as it did. -/
def ruleOfSpec : ChangeSpec := { name := "ruleOf", fn := fun _ => fun
  | [d1, d2] => { results := [.lit (.bool true)], args := [d1, d2] }
  | _ => none }
def ruleOfRow : OpenClaim := { program := "ytfbaebekpkfijaa", sum := "14e0507c2489584efa2f0f049fde0bd2499241e8f91246690b176ffb84b20648", func := "copperplate/copperplatelaw11.RuleOf", spec := "ruleOf", unfollowed := true, recurses := true, apart := false }
def RuleOfSaid : Prop := ruleOfRow.holds Try.pinned (OpenSpec.ofChange ruleOfSpec)

/-- ITS FALSE NEIGHBOUR: 'it returns false'. Refute it at one input. -/
def ruleOfWrong : ChangeSpec := { name := "ruleOf", fn := fun _ => fun
  | [d1, d2] => { results := [.lit (.bool false)], args := [d1, d2] }
  | _ => none }
def RuleOfWrongFalsely : Prop := ruleOfRow.holds Try.pinned (OpenSpec.ofChange ruleOfWrong)

/-- 'copperplatelaw11.RuleMarks': WHATEVER THE INPUT: true; the input reads as it did. -/
def ruleMarksSpec : ChangeSpec := { name := "ruleMarks", fn := fun _ => fun
  | [d] => { results := [.lit (.bool true)], args := [d] }
  | _ => none }
def ruleMarksRow : OpenClaim := { program := "ytfbaebekpkfijaa", sum := "14e0507c2489584efa2f0f049fde0bd2499241e8f91246690b176ffb84b20648", func := "copperplate/copperplatelaw11.RuleMarks", spec := "ruleMarks", unfollowed := true, recurses := true, apart := false }
def RuleMarksSaid : Prop := ruleMarksRow.holds Try.pinned (OpenSpec.ofChange ruleMarksSpec)

/-- ITS FALSE NEIGHBOUR: 'it returns false'. Refute it at one input. -/
def ruleMarksWrong : ChangeSpec := { name := "ruleMarks", fn := fun _ => fun
  | [d] => { results := [.lit (.bool false)], args := [d] }
  | _ => none }
def RuleMarksWrongFalsely : Prop := ruleMarksRow.holds Try.pinned (OpenSpec.ofChange ruleMarksWrong)

/-- 'copperplatelaw11.RulePlain': WHATEVER THE INPUT: true; the input reads as it did. -/
def rulePlainSpec : ChangeSpec := { name := "rulePlain", fn := fun _ => fun
  | [d1, d2] => { results := [.lit (.bool true)], args := [d1, d2] }
  | _ => none }
def rulePlainRow : OpenClaim := { program := "ytfbaebekpkfijaa", sum := "14e0507c2489584efa2f0f049fde0bd2499241e8f91246690b176ffb84b20648", func := "copperplate/copperplatelaw11.RulePlain", spec := "rulePlain", unfollowed := true, recurses := true, apart := false }
def RulePlainSaid : Prop := rulePlainRow.holds Try.pinned (OpenSpec.ofChange rulePlainSpec)

/-- ITS FALSE NEIGHBOUR: 'it returns false'. Refute it at one input. -/
def rulePlainWrong : ChangeSpec := { name := "rulePlain", fn := fun _ => fun
  | [d1, d2] => { results := [.lit (.bool false)], args := [d1, d2] }
  | _ => none }
def RulePlainWrongFalsely : Prop := rulePlainRow.holds Try.pinned (OpenSpec.ofChange rulePlainWrong)

/-- 'copperplatelaw11.RuleApart': WHATEVER THE INPUT: true; the input reads as it did. -/
def ruleApartSpec : ChangeSpec := { name := "ruleApart", fn := fun _ => fun
  | [d1, d2] => { results := [.lit (.bool true)], args := [d1, d2] }
  | _ => none }
def ruleApartRow : OpenClaim := { program := "ytfbaebekpkfijaa", sum := "14e0507c2489584efa2f0f049fde0bd2499241e8f91246690b176ffb84b20648", func := "copperplate/copperplatelaw11.RuleApart", spec := "ruleApart", unfollowed := true, recurses := true, apart := false }
def RuleApartSaid : Prop := ruleApartRow.holds Try.pinned (OpenSpec.ofChange ruleApartSpec)

/-- ITS FALSE NEIGHBOUR: 'it returns false'. Refute it at one input. -/
def ruleApartWrong : ChangeSpec := { name := "ruleApart", fn := fun _ => fun
  | [d1, d2] => { results := [.lit (.bool false)], args := [d1, d2] }
  | _ => none }
def RuleApartWrongFalsely : Prop := ruleApartRow.holds Try.pinned (OpenSpec.ofChange ruleApartWrong)

/-- 'copperplatelaw11.RuleUsed': WHATEVER THE INPUT: true; the input reads as it did. -/
def ruleUsedSpec : ChangeSpec := { name := "ruleUsed", fn := fun _ => fun
  | [d] => { results := [.lit (.bool true)], args := [d] }
  | _ => none }
def ruleUsedRow : OpenClaim := { program := "ytfbaebekpkfijaa", sum := "14e0507c2489584efa2f0f049fde0bd2499241e8f91246690b176ffb84b20648", func := "copperplate/copperplatelaw11.RuleUsed", spec := "ruleUsed", unfollowed := true, recurses := true, apart := false }
def RuleUsedSaid : Prop := ruleUsedRow.holds Try.pinned (OpenSpec.ofChange ruleUsedSpec)

/-- ITS FALSE NEIGHBOUR: 'it returns false'. Refute it at one input. -/
def ruleUsedWrong : ChangeSpec := { name := "ruleUsed", fn := fun _ => fun
  | [d] => { results := [.lit (.bool false)], args := [d] }
  | _ => none }
def RuleUsedWrongFalsely : Prop := ruleUsedRow.holds Try.pinned (OpenSpec.ofChange ruleUsedWrong)

/-- 'copperplatelaw12.PickTells': WHATEVER THE INPUT: true; the input reads as it did. -/
def pickTellsSpec : ChangeSpec := { name := "pickTells", fn := fun _ => fun
  | [d1, d2, d3, d4] => { results := [.lit (.bool true)], args := [d1, d2, d3, d4] }
  | _ => none }
def pickTellsRow : OpenClaim := { program := "ytfbaebekpkfijaa", sum := "14e0507c2489584efa2f0f049fde0bd2499241e8f91246690b176ffb84b20648", func := "copperplate/copperplatelaw12.PickTells", spec := "pickTells", unfollowed := true, recurses := true, apart := false }
def PickTellsSaid : Prop := pickTellsRow.holds Try.pinned (OpenSpec.ofChange pickTellsSpec)

/-- ITS FALSE NEIGHBOUR: 'it returns false'. Refute it at one input. -/
def pickTellsWrong : ChangeSpec := { name := "pickTells", fn := fun _ => fun
  | [d1, d2, d3, d4] => { results := [.lit (.bool false)], args := [d1, d2, d3, d4] }
  | _ => none }
def PickTellsWrongFalsely : Prop := pickTellsRow.holds Try.pinned (OpenSpec.ofChange pickTellsWrong)

/-- 'copperplatelaw14.YieldFails': WHATEVER THE INPUT: true; the input reads as it did. -/
def yieldFailsSpec : ChangeSpec := { name := "yieldFails", fn := fun _ => fun
  | [d1, d2] => { results := [.lit (.bool true)], args := [d1, d2] }
  | _ => none }
def yieldFailsRow : OpenClaim := { program := "ytfbaebekpkfijaa", sum := "14e0507c2489584efa2f0f049fde0bd2499241e8f91246690b176ffb84b20648", func := "copperplate/copperplatelaw14.YieldFails", spec := "yieldFails", unfollowed := true, recurses := true, apart := false }
def YieldFailsSaid : Prop := yieldFailsRow.holds Try.pinned (OpenSpec.ofChange yieldFailsSpec)

/-- ITS FALSE NEIGHBOUR: 'it returns false'. Refute it at one input. -/
def yieldFailsWrong : ChangeSpec := { name := "yieldFails", fn := fun _ => fun
  | [d1, d2] => { results := [.lit (.bool false)], args := [d1, d2] }
  | _ => none }
def YieldFailsWrongFalsely : Prop := yieldFailsRow.holds Try.pinned (OpenSpec.ofChange yieldFailsWrong)

/-- 'copperplatelaw12.PickOne': WHATEVER THE INPUT: true; the input reads as it did. -/
def pickOneSpec : ChangeSpec := { name := "pickOne", fn := fun _ => fun
  | [d1, d2] => { results := [.lit (.bool true)], args := [d1, d2] }
  | _ => none }
def pickOneRow : OpenClaim := { program := "ytfbaebekpkfijaa", sum := "14e0507c2489584efa2f0f049fde0bd2499241e8f91246690b176ffb84b20648", func := "copperplate/copperplatelaw12.PickOne", spec := "pickOne", unfollowed := true, recurses := true, apart := false }
def PickOneSaid : Prop := pickOneRow.holds Try.pinned (OpenSpec.ofChange pickOneSpec)

/-- ITS FALSE NEIGHBOUR: 'it returns false'. Refute it at one input. -/
def pickOneWrong : ChangeSpec := { name := "pickOne", fn := fun _ => fun
  | [d1, d2] => { results := [.lit (.bool false)], args := [d1, d2] }
  | _ => none }
def PickOneWrongFalsely : Prop := pickOneRow.holds Try.pinned (OpenSpec.ofChange pickOneWrong)

/-- 'copperplatelaw12.PickFollows': WHATEVER THE INPUT: true; the input reads as it did. -/
def pickFollowsSpec : ChangeSpec := { name := "pickFollows", fn := fun _ => fun
  | [d1, d2] => { results := [.lit (.bool true)], args := [d1, d2] }
  | _ => none }
def pickFollowsRow : OpenClaim := { program := "ytfbaebekpkfijaa", sum := "14e0507c2489584efa2f0f049fde0bd2499241e8f91246690b176ffb84b20648", func := "copperplate/copperplatelaw12.PickFollows", spec := "pickFollows", unfollowed := true, recurses := true, apart := false }
def PickFollowsSaid : Prop := pickFollowsRow.holds Try.pinned (OpenSpec.ofChange pickFollowsSpec)

/-- ITS FALSE NEIGHBOUR: 'it returns false'. Refute it at one input. -/
def pickFollowsWrong : ChangeSpec := { name := "pickFollows", fn := fun _ => fun
  | [d1, d2] => { results := [.lit (.bool false)], args := [d1, d2] }
  | _ => none }
def PickFollowsWrongFalsely : Prop := pickFollowsRow.holds Try.pinned (OpenSpec.ofChange pickFollowsWrong)

/-- 'copperplatelaw14.YieldJoins': WHATEVER THE INPUT: true; the input reads as it did. -/
def yieldJoinsSpec : ChangeSpec := { name := "yieldJoins", fn := fun _ => fun
  | [d1, d2] => { results := [.lit (.bool true)], args := [d1, d2] }
  | _ => none }
def yieldJoinsRow : OpenClaim := { program := "ytfbaebekpkfijaa", sum := "14e0507c2489584efa2f0f049fde0bd2499241e8f91246690b176ffb84b20648", func := "copperplate/copperplatelaw14.YieldJoins", spec := "yieldJoins", unfollowed := true, recurses := true, apart := false }
def YieldJoinsSaid : Prop := yieldJoinsRow.holds Try.pinned (OpenSpec.ofChange yieldJoinsSpec)

/-- ITS FALSE NEIGHBOUR: 'it returns false'. Refute it at one input. -/
def yieldJoinsWrong : ChangeSpec := { name := "yieldJoins", fn := fun _ => fun
  | [d1, d2] => { results := [.lit (.bool false)], args := [d1, d2] }
  | _ => none }
def YieldJoinsWrongFalsely : Prop := yieldJoinsRow.holds Try.pinned (OpenSpec.ofChange yieldJoinsWrong)

/-- 'copperplatelaw12.PickClass': WHATEVER THE INPUT: true; the input reads as it did. -/
def pickClassSpec : ChangeSpec := { name := "pickClass", fn := fun _ => fun
  | [d1, d2] => { results := [.lit (.bool true)], args := [d1, d2] }
  | _ => none }
def pickClassRow : OpenClaim := { program := "ytfbaebekpkfijaa", sum := "14e0507c2489584efa2f0f049fde0bd2499241e8f91246690b176ffb84b20648", func := "copperplate/copperplatelaw12.PickClass", spec := "pickClass", unfollowed := true, recurses := true, apart := false }
def PickClassSaid : Prop := pickClassRow.holds Try.pinned (OpenSpec.ofChange pickClassSpec)

/-- ITS FALSE NEIGHBOUR: 'it returns false'. Refute it at one input. -/
def pickClassWrong : ChangeSpec := { name := "pickClass", fn := fun _ => fun
  | [d1, d2] => { results := [.lit (.bool false)], args := [d1, d2] }
  | _ => none }
def PickClassWrongFalsely : Prop := pickClassRow.holds Try.pinned (OpenSpec.ofChange pickClassWrong)

/-- 'copperplatelaw12.PickRule': WHATEVER THE INPUT: true; the input reads as it did. -/
def pickRuleSpec : ChangeSpec := { name := "pickRule", fn := fun _ => fun
  | [d1, d2] => { results := [.lit (.bool true)], args := [d1, d2] }
  | _ => none }
def pickRuleRow : OpenClaim := { program := "ytfbaebekpkfijaa", sum := "14e0507c2489584efa2f0f049fde0bd2499241e8f91246690b176ffb84b20648", func := "copperplate/copperplatelaw12.PickRule", spec := "pickRule", unfollowed := true, recurses := true, apart := false }
def PickRuleSaid : Prop := pickRuleRow.holds Try.pinned (OpenSpec.ofChange pickRuleSpec)

/-- ITS FALSE NEIGHBOUR: 'it returns false'. Refute it at one input. -/
def pickRuleWrong : ChangeSpec := { name := "pickRule", fn := fun _ => fun
  | [d1, d2] => { results := [.lit (.bool false)], args := [d1, d2] }
  | _ => none }
def PickRuleWrongFalsely : Prop := pickRuleRow.holds Try.pinned (OpenSpec.ofChange pickRuleWrong)

/-- 'copperplatelaw12.PickBegins': WHATEVER THE INPUT: true; the input reads as it did. -/
def pickBeginsSpec : ChangeSpec := { name := "pickBegins", fn := fun _ => fun
  | [d1, d2] => { results := [.lit (.bool true)], args := [d1, d2] }
  | _ => none }
def pickBeginsRow : OpenClaim := { program := "ytfbaebekpkfijaa", sum := "14e0507c2489584efa2f0f049fde0bd2499241e8f91246690b176ffb84b20648", func := "copperplate/copperplatelaw12.PickBegins", spec := "pickBegins", unfollowed := true, recurses := true, apart := false }
def PickBeginsSaid : Prop := pickBeginsRow.holds Try.pinned (OpenSpec.ofChange pickBeginsSpec)

/-- ITS FALSE NEIGHBOUR: 'it returns false'. Refute it at one input. -/
def pickBeginsWrong : ChangeSpec := { name := "pickBegins", fn := fun _ => fun
  | [d1, d2] => { results := [.lit (.bool false)], args := [d1, d2] }
  | _ => none }
def PickBeginsWrongFalsely : Prop := pickBeginsRow.holds Try.pinned (OpenSpec.ofChange pickBeginsWrong)

/-- 'copperplatelaw12.PickEnd': WHATEVER THE INPUT: true; the input reads as it did. -/
def pickEndSpec : ChangeSpec := { name := "pickEnd", fn := fun _ => fun
  | [d1, d2] => { results := [.lit (.bool true)], args := [d1, d2] }
  | _ => none }
def pickEndRow : OpenClaim := { program := "ytfbaebekpkfijaa", sum := "14e0507c2489584efa2f0f049fde0bd2499241e8f91246690b176ffb84b20648", func := "copperplate/copperplatelaw12.PickEnd", spec := "pickEnd", unfollowed := true, recurses := true, apart := false }
def PickEndSaid : Prop := pickEndRow.holds Try.pinned (OpenSpec.ofChange pickEndSpec)

/-- ITS FALSE NEIGHBOUR: 'it returns false'. Refute it at one input. -/
def pickEndWrong : ChangeSpec := { name := "pickEnd", fn := fun _ => fun
  | [d1, d2] => { results := [.lit (.bool false)], args := [d1, d2] }
  | _ => none }
def PickEndWrongFalsely : Prop := pickEndRow.holds Try.pinned (OpenSpec.ofChange pickEndWrong)

/-- 'copperplatelaw14.YieldTells': WHATEVER THE INPUT: true; the input reads as it did. -/
def yieldTellsSpec : ChangeSpec := { name := "yieldTells", fn := fun _ => fun
  | [d1, d2] => { results := [.lit (.bool true)], args := [d1, d2] }
  | _ => none }
def yieldTellsRow : OpenClaim := { program := "ytfbaebekpkfijaa", sum := "14e0507c2489584efa2f0f049fde0bd2499241e8f91246690b176ffb84b20648", func := "copperplate/copperplatelaw14.YieldTells", spec := "yieldTells", unfollowed := true, recurses := true, apart := false }
def YieldTellsSaid : Prop := yieldTellsRow.holds Try.pinned (OpenSpec.ofChange yieldTellsSpec)

/-- ITS FALSE NEIGHBOUR: 'it returns false'. Refute it at one input. -/
def yieldTellsWrong : ChangeSpec := { name := "yieldTells", fn := fun _ => fun
  | [d1, d2] => { results := [.lit (.bool false)], args := [d1, d2] }
  | _ => none }
def YieldTellsWrongFalsely : Prop := yieldTellsRow.holds Try.pinned (OpenSpec.ofChange yieldTellsWrong)

/-- 'copperplatelaw14.YieldPlain': WHATEVER THE INPUT: true; the input reads as it did. -/
def yieldPlainSpec : ChangeSpec := { name := "yieldPlain", fn := fun _ => fun
  | [d1, d2] => { results := [.lit (.bool true)], args := [d1, d2] }
  | _ => none }
def yieldPlainRow : OpenClaim := { program := "ytfbaebekpkfijaa", sum := "14e0507c2489584efa2f0f049fde0bd2499241e8f91246690b176ffb84b20648", func := "copperplate/copperplatelaw14.YieldPlain", spec := "yieldPlain", unfollowed := true, recurses := true, apart := false }
def YieldPlainSaid : Prop := yieldPlainRow.holds Try.pinned (OpenSpec.ofChange yieldPlainSpec)

/-- ITS FALSE NEIGHBOUR: 'it returns false'. Refute it at one input. -/
def yieldPlainWrong : ChangeSpec := { name := "yieldPlain", fn := fun _ => fun
  | [d1, d2] => { results := [.lit (.bool false)], args := [d1, d2] }
  | _ => none }
def YieldPlainWrongFalsely : Prop := yieldPlainRow.holds Try.pinned (OpenSpec.ofChange yieldPlainWrong)

/-- 'copperplatelaw14.YieldFirst': WHATEVER THE INPUT: true; the input reads as it did. -/
def yieldFirstSpec : ChangeSpec := { name := "yieldFirst", fn := fun _ => fun
  | [d1, d2] => { results := [.lit (.bool true)], args := [d1, d2] }
  | _ => none }
def yieldFirstRow : OpenClaim := { program := "ytfbaebekpkfijaa", sum := "14e0507c2489584efa2f0f049fde0bd2499241e8f91246690b176ffb84b20648", func := "copperplate/copperplatelaw14.YieldFirst", spec := "yieldFirst", unfollowed := true, recurses := true, apart := false }
def YieldFirstSaid : Prop := yieldFirstRow.holds Try.pinned (OpenSpec.ofChange yieldFirstSpec)

/-- ITS FALSE NEIGHBOUR: 'it returns false'. Refute it at one input. -/
def yieldFirstWrong : ChangeSpec := { name := "yieldFirst", fn := fun _ => fun
  | [d1, d2] => { results := [.lit (.bool false)], args := [d1, d2] }
  | _ => none }
def YieldFirstWrongFalsely : Prop := yieldFirstRow.holds Try.pinned (OpenSpec.ofChange yieldFirstWrong)

/-- 'copperplatelaw13.ParseTells': WHATEVER THE INPUT: true; the input reads as it did. -/
def parseTellsSpec : ChangeSpec := { name := "parseTells", fn := fun _ => fun
  | [d] => { results := [.lit (.bool true)], args := [d] }
  | _ => none }
def parseTellsRow : OpenClaim := { program := "ytfbaebekpkfijaa", sum := "14e0507c2489584efa2f0f049fde0bd2499241e8f91246690b176ffb84b20648", func := "copperplate/copperplatelaw13.ParseTells", spec := "parseTells", unfollowed := true, recurses := true, apart := false }
def ParseTellsSaid : Prop := parseTellsRow.holds Try.pinned (OpenSpec.ofChange parseTellsSpec)

/-- ITS FALSE NEIGHBOUR: 'it returns false'. Refute it at one input. -/
def parseTellsWrong : ChangeSpec := { name := "parseTells", fn := fun _ => fun
  | [d] => { results := [.lit (.bool false)], args := [d] }
  | _ => none }
def ParseTellsWrongFalsely : Prop := parseTellsRow.holds Try.pinned (OpenSpec.ofChange parseTellsWrong)

/-- 'copperplatelaw13.ParseFirst': WHATEVER THE INPUT: true; the input reads as it did. -/
def parseFirstSpec : ChangeSpec := { name := "parseFirst", fn := fun _ => fun
  | [d1, d2] => { results := [.lit (.bool true)], args := [d1, d2] }
  | _ => none }
def parseFirstRow : OpenClaim := { program := "ytfbaebekpkfijaa", sum := "14e0507c2489584efa2f0f049fde0bd2499241e8f91246690b176ffb84b20648", func := "copperplate/copperplatelaw13.ParseFirst", spec := "parseFirst", unfollowed := true, recurses := true, apart := false }
def ParseFirstSaid : Prop := parseFirstRow.holds Try.pinned (OpenSpec.ofChange parseFirstSpec)

/-- ITS FALSE NEIGHBOUR: 'it returns false'. Refute it at one input. -/
def parseFirstWrong : ChangeSpec := { name := "parseFirst", fn := fun _ => fun
  | [d1, d2] => { results := [.lit (.bool false)], args := [d1, d2] }
  | _ => none }
def ParseFirstWrongFalsely : Prop := parseFirstRow.holds Try.pinned (OpenSpec.ofChange parseFirstWrong)

/-- 'copperplatelaw13.ParseSteps': WHATEVER THE INPUT: true; the input reads as it did. -/
def parseStepsSpec : ChangeSpec := { name := "parseSteps", fn := fun _ => fun
  | [d] => { results := [.lit (.bool true)], args := [d] }
  | _ => none }
def parseStepsRow : OpenClaim := { program := "ytfbaebekpkfijaa", sum := "14e0507c2489584efa2f0f049fde0bd2499241e8f91246690b176ffb84b20648", func := "copperplate/copperplatelaw13.ParseSteps", spec := "parseSteps", unfollowed := true, recurses := true, apart := false }
def ParseStepsSaid : Prop := parseStepsRow.holds Try.pinned (OpenSpec.ofChange parseStepsSpec)

/-- ITS FALSE NEIGHBOUR: 'it returns false'. Refute it at one input. -/
def parseStepsWrong : ChangeSpec := { name := "parseSteps", fn := fun _ => fun
  | [d] => { results := [.lit (.bool false)], args := [d] }
  | _ => none }
def ParseStepsWrongFalsely : Prop := parseStepsRow.holds Try.pinned (OpenSpec.ofChange parseStepsWrong)

/-- 'copperplatelaw13.ParseNames': WHATEVER THE INPUT: true; the input reads as it did. -/
def parseNamesSpec : ChangeSpec := { name := "parseNames", fn := fun _ => fun
  | [d1, d2] => { results := [.lit (.bool true)], args := [d1, d2] }
  | _ => none }
def parseNamesRow : OpenClaim := { program := "ytfbaebekpkfijaa", sum := "14e0507c2489584efa2f0f049fde0bd2499241e8f91246690b176ffb84b20648", func := "copperplate/copperplatelaw13.ParseNames", spec := "parseNames", unfollowed := true, recurses := true, apart := false }
def ParseNamesSaid : Prop := parseNamesRow.holds Try.pinned (OpenSpec.ofChange parseNamesSpec)

/-- ITS FALSE NEIGHBOUR: 'it returns false'. Refute it at one input. -/
def parseNamesWrong : ChangeSpec := { name := "parseNames", fn := fun _ => fun
  | [d1, d2] => { results := [.lit (.bool false)], args := [d1, d2] }
  | _ => none }
def ParseNamesWrongFalsely : Prop := parseNamesRow.holds Try.pinned (OpenSpec.ofChange parseNamesWrong)

/-- 'copperplatelaw13.ParseBraces': WHATEVER THE INPUT: true; the input reads as it did. -/
def parseBracesSpec : ChangeSpec := { name := "parseBraces", fn := fun _ => fun
  | [d1, d2] => { results := [.lit (.bool true)], args := [d1, d2] }
  | _ => none }
def parseBracesRow : OpenClaim := { program := "ytfbaebekpkfijaa", sum := "14e0507c2489584efa2f0f049fde0bd2499241e8f91246690b176ffb84b20648", func := "copperplate/copperplatelaw13.ParseBraces", spec := "parseBraces", unfollowed := true, recurses := true, apart := false }
def ParseBracesSaid : Prop := parseBracesRow.holds Try.pinned (OpenSpec.ofChange parseBracesSpec)

/-- ITS FALSE NEIGHBOUR: 'it returns false'. Refute it at one input. -/
def parseBracesWrong : ChangeSpec := { name := "parseBraces", fn := fun _ => fun
  | [d1, d2] => { results := [.lit (.bool false)], args := [d1, d2] }
  | _ => none }
def ParseBracesWrongFalsely : Prop := parseBracesRow.holds Try.pinned (OpenSpec.ofChange parseBracesWrong)

/-- 'copperplatelaw13.ParseJoins': WHATEVER THE INPUT: true; the input reads as it did. -/
def parseJoinsSpec : ChangeSpec := { name := "parseJoins", fn := fun _ => fun
  | [d1, d2] => { results := [.lit (.bool true)], args := [d1, d2] }
  | _ => none }
def parseJoinsRow : OpenClaim := { program := "ytfbaebekpkfijaa", sum := "14e0507c2489584efa2f0f049fde0bd2499241e8f91246690b176ffb84b20648", func := "copperplate/copperplatelaw13.ParseJoins", spec := "parseJoins", unfollowed := true, recurses := true, apart := false }
def ParseJoinsSaid : Prop := parseJoinsRow.holds Try.pinned (OpenSpec.ofChange parseJoinsSpec)

/-- ITS FALSE NEIGHBOUR: 'it returns false'. Refute it at one input. -/
def parseJoinsWrong : ChangeSpec := { name := "parseJoins", fn := fun _ => fun
  | [d1, d2] => { results := [.lit (.bool false)], args := [d1, d2] }
  | _ => none }
def ParseJoinsWrongFalsely : Prop := parseJoinsRow.holds Try.pinned (OpenSpec.ofChange parseJoinsWrong)

/-- 'copperplatelaw13.ParseNone': WHATEVER THE INPUT: true; the input reads as it did. -/
def parseNoneSpec : ChangeSpec := { name := "parseNone", fn := fun _ => fun
  | [d] => { results := [.lit (.bool true)], args := [d] }
  | _ => none }
def parseNoneRow : OpenClaim := { program := "ytfbaebekpkfijaa", sum := "14e0507c2489584efa2f0f049fde0bd2499241e8f91246690b176ffb84b20648", func := "copperplate/copperplatelaw13.ParseNone", spec := "parseNone", unfollowed := true, recurses := true, apart := false }
def ParseNoneSaid : Prop := parseNoneRow.holds Try.pinned (OpenSpec.ofChange parseNoneSpec)

/-- ITS FALSE NEIGHBOUR: 'it returns false'. Refute it at one input. -/
def parseNoneWrong : ChangeSpec := { name := "parseNone", fn := fun _ => fun
  | [d] => { results := [.lit (.bool false)], args := [d] }
  | _ => none }
def ParseNoneWrongFalsely : Prop := parseNoneRow.holds Try.pinned (OpenSpec.ofChange parseNoneWrong)

/-- 'copperplatelaw15.DepthParsed': WHATEVER THE INPUT: true; the input reads as it did. -/
def depthParsedSpec : ChangeSpec := { name := "depthParsed", fn := fun _ => fun
  | [d1, d2] => { results := [.lit (.bool true)], args := [d1, d2] }
  | _ => none }
def depthParsedRow : OpenClaim := { program := "ytfbaebekpkfijaa", sum := "14e0507c2489584efa2f0f049fde0bd2499241e8f91246690b176ffb84b20648", func := "copperplate/copperplatelaw15.DepthParsed", spec := "depthParsed", unfollowed := true, recurses := true, apart := false }
def DepthParsedSaid : Prop := depthParsedRow.holds Try.pinned (OpenSpec.ofChange depthParsedSpec)

/-- ITS FALSE NEIGHBOUR: 'it returns false'. Refute it at one input. -/
def depthParsedWrong : ChangeSpec := { name := "depthParsed", fn := fun _ => fun
  | [d1, d2] => { results := [.lit (.bool false)], args := [d1, d2] }
  | _ => none }
def DepthParsedWrongFalsely : Prop := depthParsedRow.holds Try.pinned (OpenSpec.ofChange depthParsedWrong)

/-- 'copperplatelaw14.YieldBack': WHATEVER THE INPUT: true; the input reads as it did. -/
def yieldBackSpec : ChangeSpec := { name := "yieldBack", fn := fun _ => fun
  | [d] => { results := [.lit (.bool true)], args := [d] }
  | _ => none }
def yieldBackRow : OpenClaim := { program := "ytfbaebekpkfijaa", sum := "14e0507c2489584efa2f0f049fde0bd2499241e8f91246690b176ffb84b20648", func := "copperplate/copperplatelaw14.YieldBack", spec := "yieldBack", unfollowed := true, recurses := true, apart := false }
def YieldBackSaid : Prop := yieldBackRow.holds Try.pinned (OpenSpec.ofChange yieldBackSpec)

/-- ITS FALSE NEIGHBOUR: 'it returns false'. Refute it at one input. -/
def yieldBackWrong : ChangeSpec := { name := "yieldBack", fn := fun _ => fun
  | [d] => { results := [.lit (.bool false)], args := [d] }
  | _ => none }
def YieldBackWrongFalsely : Prop := yieldBackRow.holds Try.pinned (OpenSpec.ofChange yieldBackWrong)

/-- 'copperplatelaw14.YieldOnly': WHATEVER THE INPUT: true; the input reads as it did. -/
def yieldOnlySpec : ChangeSpec := { name := "yieldOnly", fn := fun _ => fun
  | [d1, d2] => { results := [.lit (.bool true)], args := [d1, d2] }
  | _ => none }
def yieldOnlyRow : OpenClaim := { program := "ytfbaebekpkfijaa", sum := "14e0507c2489584efa2f0f049fde0bd2499241e8f91246690b176ffb84b20648", func := "copperplate/copperplatelaw14.YieldOnly", spec := "yieldOnly", unfollowed := true, recurses := true, apart := false }
def YieldOnlySaid : Prop := yieldOnlyRow.holds Try.pinned (OpenSpec.ofChange yieldOnlySpec)

/-- ITS FALSE NEIGHBOUR: 'it returns false'. Refute it at one input. -/
def yieldOnlyWrong : ChangeSpec := { name := "yieldOnly", fn := fun _ => fun
  | [d1, d2] => { results := [.lit (.bool false)], args := [d1, d2] }
  | _ => none }
def YieldOnlyWrongFalsely : Prop := yieldOnlyRow.holds Try.pinned (OpenSpec.ofChange yieldOnlyWrong)

/- THE SECOND FORM. 'bulk': how many values and letters a reading holds, each counted each time it is reached (what is shared counts as often as it is met; a slice's spare places count too). A statement '..UptoSaid' is the law's where the arguments, and the package variables that the reading takes, are together of bulk at most 1048576: NARROWER than '..Said'. Prove '..Said' where nothing that the law and all that it calls make is longer than what came in: it says more and counts as full. Else prove '..UptoSaid'. A law counts once. -/
mutual
def uptoBulk {H : Type} : DataW H → Nat
  | .lit (.string bytes) => bytes.length + 1
  | .lit _ => 1
  | .nil => 1
  | .ptr d => uptoBulk d + 1
  | .slice elems spare => uptoBulkAll elems + uptoBulkAll spare + 1
  | .agg parts => uptoBulkAll parts + 1
  | .iface _ d => uptoBulk d + 1
  | .map entries => uptoBulkEntries entries + 1
  | .held _ => 1
def uptoBulkAll {H : Type} : List (DataW H) → Nat
  | [] => 0
  | d :: r => uptoBulk d + uptoBulkAll r
def uptoBulkEntries {H : Type} : List (Lit × DataW H) → Nat
  | [] => 0
  | x :: r => uptoBulkEntry x + uptoBulkEntries r
def uptoBulkEntry {H : Type} : Lit × DataW H → Nat
  | (.string bytes, d) => bytes.length + uptoBulk d + 1
  | (_, d) => uptoBulk d + 1
 end
def uptoSmall : (H : Type) → List (DataW H) → Bool := fun _ ds => decide (uptoBulkAll ds ≤ 1048576)
def OpenSpec.upto (s : _root_.Go.ChangeSpec) : _root_.Go.OpenSpec := { _root_.Go.OpenSpec.ofChange s with cond := some uptoSmall }

/-- 'copperplatelaw11.RuleTells', WHERE WHAT IT READS IS OF BULK AT MOST 1048576: true; the input reads as it did. -/
def ruleTellsUptoRow : OpenClaim := { program := "ytfbaebekpkfijaa", sum := "14e0507c2489584efa2f0f049fde0bd2499241e8f91246690b176ffb84b20648", func := "copperplate/copperplatelaw11.RuleTells", spec := "ruleTells", unfollowed := true, recurses := true, apart := false, narrowed := true }
def RuleTellsUptoSaid : Prop := ruleTellsUptoRow.holds Try.pinned (OpenSpec.upto ruleTellsSpec)

/-- 'copperplatelaw11.RuleOf', WHERE WHAT IT READS IS OF BULK AT MOST 1048576: true; the input reads as it did. -/
def ruleOfUptoRow : OpenClaim := { program := "ytfbaebekpkfijaa", sum := "14e0507c2489584efa2f0f049fde0bd2499241e8f91246690b176ffb84b20648", func := "copperplate/copperplatelaw11.RuleOf", spec := "ruleOf", unfollowed := true, recurses := true, apart := false, narrowed := true }
def RuleOfUptoSaid : Prop := ruleOfUptoRow.holds Try.pinned (OpenSpec.upto ruleOfSpec)

/-- 'copperplatelaw11.RuleMarks', WHERE WHAT IT READS IS OF BULK AT MOST 1048576: true; the input reads as it did. -/
def ruleMarksUptoRow : OpenClaim := { program := "ytfbaebekpkfijaa", sum := "14e0507c2489584efa2f0f049fde0bd2499241e8f91246690b176ffb84b20648", func := "copperplate/copperplatelaw11.RuleMarks", spec := "ruleMarks", unfollowed := true, recurses := true, apart := false, narrowed := true }
def RuleMarksUptoSaid : Prop := ruleMarksUptoRow.holds Try.pinned (OpenSpec.upto ruleMarksSpec)

/-- 'copperplatelaw11.RulePlain', WHERE WHAT IT READS IS OF BULK AT MOST 1048576: true; the input reads as it did. -/
def rulePlainUptoRow : OpenClaim := { program := "ytfbaebekpkfijaa", sum := "14e0507c2489584efa2f0f049fde0bd2499241e8f91246690b176ffb84b20648", func := "copperplate/copperplatelaw11.RulePlain", spec := "rulePlain", unfollowed := true, recurses := true, apart := false, narrowed := true }
def RulePlainUptoSaid : Prop := rulePlainUptoRow.holds Try.pinned (OpenSpec.upto rulePlainSpec)

/-- 'copperplatelaw11.RuleApart', WHERE WHAT IT READS IS OF BULK AT MOST 1048576: true; the input reads as it did. -/
def ruleApartUptoRow : OpenClaim := { program := "ytfbaebekpkfijaa", sum := "14e0507c2489584efa2f0f049fde0bd2499241e8f91246690b176ffb84b20648", func := "copperplate/copperplatelaw11.RuleApart", spec := "ruleApart", unfollowed := true, recurses := true, apart := false, narrowed := true }
def RuleApartUptoSaid : Prop := ruleApartUptoRow.holds Try.pinned (OpenSpec.upto ruleApartSpec)

/-- 'copperplatelaw11.RuleUsed', WHERE WHAT IT READS IS OF BULK AT MOST 1048576: true; the input reads as it did. -/
def ruleUsedUptoRow : OpenClaim := { program := "ytfbaebekpkfijaa", sum := "14e0507c2489584efa2f0f049fde0bd2499241e8f91246690b176ffb84b20648", func := "copperplate/copperplatelaw11.RuleUsed", spec := "ruleUsed", unfollowed := true, recurses := true, apart := false, narrowed := true }
def RuleUsedUptoSaid : Prop := ruleUsedUptoRow.holds Try.pinned (OpenSpec.upto ruleUsedSpec)

/-- 'copperplatelaw12.PickTells', WHERE WHAT IT READS IS OF BULK AT MOST 1048576: true; the input reads as it did. -/
def pickTellsUptoRow : OpenClaim := { program := "ytfbaebekpkfijaa", sum := "14e0507c2489584efa2f0f049fde0bd2499241e8f91246690b176ffb84b20648", func := "copperplate/copperplatelaw12.PickTells", spec := "pickTells", unfollowed := true, recurses := true, apart := false, narrowed := true }
def PickTellsUptoSaid : Prop := pickTellsUptoRow.holds Try.pinned (OpenSpec.upto pickTellsSpec)

/-- 'copperplatelaw14.YieldFails', WHERE WHAT IT READS IS OF BULK AT MOST 1048576: true; the input reads as it did. -/
def yieldFailsUptoRow : OpenClaim := { program := "ytfbaebekpkfijaa", sum := "14e0507c2489584efa2f0f049fde0bd2499241e8f91246690b176ffb84b20648", func := "copperplate/copperplatelaw14.YieldFails", spec := "yieldFails", unfollowed := true, recurses := true, apart := false, narrowed := true }
def YieldFailsUptoSaid : Prop := yieldFailsUptoRow.holds Try.pinned (OpenSpec.upto yieldFailsSpec)

/-- 'copperplatelaw12.PickOne', WHERE WHAT IT READS IS OF BULK AT MOST 1048576: true; the input reads as it did. -/
def pickOneUptoRow : OpenClaim := { program := "ytfbaebekpkfijaa", sum := "14e0507c2489584efa2f0f049fde0bd2499241e8f91246690b176ffb84b20648", func := "copperplate/copperplatelaw12.PickOne", spec := "pickOne", unfollowed := true, recurses := true, apart := false, narrowed := true }
def PickOneUptoSaid : Prop := pickOneUptoRow.holds Try.pinned (OpenSpec.upto pickOneSpec)

/-- 'copperplatelaw12.PickFollows', WHERE WHAT IT READS IS OF BULK AT MOST 1048576: true; the input reads as it did. -/
def pickFollowsUptoRow : OpenClaim := { program := "ytfbaebekpkfijaa", sum := "14e0507c2489584efa2f0f049fde0bd2499241e8f91246690b176ffb84b20648", func := "copperplate/copperplatelaw12.PickFollows", spec := "pickFollows", unfollowed := true, recurses := true, apart := false, narrowed := true }
def PickFollowsUptoSaid : Prop := pickFollowsUptoRow.holds Try.pinned (OpenSpec.upto pickFollowsSpec)

/-- 'copperplatelaw14.YieldJoins', WHERE WHAT IT READS IS OF BULK AT MOST 1048576: true; the input reads as it did. -/
def yieldJoinsUptoRow : OpenClaim := { program := "ytfbaebekpkfijaa", sum := "14e0507c2489584efa2f0f049fde0bd2499241e8f91246690b176ffb84b20648", func := "copperplate/copperplatelaw14.YieldJoins", spec := "yieldJoins", unfollowed := true, recurses := true, apart := false, narrowed := true }
def YieldJoinsUptoSaid : Prop := yieldJoinsUptoRow.holds Try.pinned (OpenSpec.upto yieldJoinsSpec)

/-- 'copperplatelaw12.PickClass', WHERE WHAT IT READS IS OF BULK AT MOST 1048576: true; the input reads as it did. -/
def pickClassUptoRow : OpenClaim := { program := "ytfbaebekpkfijaa", sum := "14e0507c2489584efa2f0f049fde0bd2499241e8f91246690b176ffb84b20648", func := "copperplate/copperplatelaw12.PickClass", spec := "pickClass", unfollowed := true, recurses := true, apart := false, narrowed := true }
def PickClassUptoSaid : Prop := pickClassUptoRow.holds Try.pinned (OpenSpec.upto pickClassSpec)

/-- 'copperplatelaw12.PickRule', WHERE WHAT IT READS IS OF BULK AT MOST 1048576: true; the input reads as it did. -/
def pickRuleUptoRow : OpenClaim := { program := "ytfbaebekpkfijaa", sum := "14e0507c2489584efa2f0f049fde0bd2499241e8f91246690b176ffb84b20648", func := "copperplate/copperplatelaw12.PickRule", spec := "pickRule", unfollowed := true, recurses := true, apart := false, narrowed := true }
def PickRuleUptoSaid : Prop := pickRuleUptoRow.holds Try.pinned (OpenSpec.upto pickRuleSpec)

/-- 'copperplatelaw12.PickBegins', WHERE WHAT IT READS IS OF BULK AT MOST 1048576: true; the input reads as it did. -/
def pickBeginsUptoRow : OpenClaim := { program := "ytfbaebekpkfijaa", sum := "14e0507c2489584efa2f0f049fde0bd2499241e8f91246690b176ffb84b20648", func := "copperplate/copperplatelaw12.PickBegins", spec := "pickBegins", unfollowed := true, recurses := true, apart := false, narrowed := true }
def PickBeginsUptoSaid : Prop := pickBeginsUptoRow.holds Try.pinned (OpenSpec.upto pickBeginsSpec)

/-- 'copperplatelaw12.PickEnd', WHERE WHAT IT READS IS OF BULK AT MOST 1048576: true; the input reads as it did. -/
def pickEndUptoRow : OpenClaim := { program := "ytfbaebekpkfijaa", sum := "14e0507c2489584efa2f0f049fde0bd2499241e8f91246690b176ffb84b20648", func := "copperplate/copperplatelaw12.PickEnd", spec := "pickEnd", unfollowed := true, recurses := true, apart := false, narrowed := true }
def PickEndUptoSaid : Prop := pickEndUptoRow.holds Try.pinned (OpenSpec.upto pickEndSpec)

/-- 'copperplatelaw14.YieldTells', WHERE WHAT IT READS IS OF BULK AT MOST 1048576: true; the input reads as it did. -/
def yieldTellsUptoRow : OpenClaim := { program := "ytfbaebekpkfijaa", sum := "14e0507c2489584efa2f0f049fde0bd2499241e8f91246690b176ffb84b20648", func := "copperplate/copperplatelaw14.YieldTells", spec := "yieldTells", unfollowed := true, recurses := true, apart := false, narrowed := true }
def YieldTellsUptoSaid : Prop := yieldTellsUptoRow.holds Try.pinned (OpenSpec.upto yieldTellsSpec)

/-- 'copperplatelaw14.YieldPlain', WHERE WHAT IT READS IS OF BULK AT MOST 1048576: true; the input reads as it did. -/
def yieldPlainUptoRow : OpenClaim := { program := "ytfbaebekpkfijaa", sum := "14e0507c2489584efa2f0f049fde0bd2499241e8f91246690b176ffb84b20648", func := "copperplate/copperplatelaw14.YieldPlain", spec := "yieldPlain", unfollowed := true, recurses := true, apart := false, narrowed := true }
def YieldPlainUptoSaid : Prop := yieldPlainUptoRow.holds Try.pinned (OpenSpec.upto yieldPlainSpec)

/-- 'copperplatelaw14.YieldFirst', WHERE WHAT IT READS IS OF BULK AT MOST 1048576: true; the input reads as it did. -/
def yieldFirstUptoRow : OpenClaim := { program := "ytfbaebekpkfijaa", sum := "14e0507c2489584efa2f0f049fde0bd2499241e8f91246690b176ffb84b20648", func := "copperplate/copperplatelaw14.YieldFirst", spec := "yieldFirst", unfollowed := true, recurses := true, apart := false, narrowed := true }
def YieldFirstUptoSaid : Prop := yieldFirstUptoRow.holds Try.pinned (OpenSpec.upto yieldFirstSpec)

/-- 'copperplatelaw13.ParseTells', WHERE WHAT IT READS IS OF BULK AT MOST 1048576: true; the input reads as it did. -/
def parseTellsUptoRow : OpenClaim := { program := "ytfbaebekpkfijaa", sum := "14e0507c2489584efa2f0f049fde0bd2499241e8f91246690b176ffb84b20648", func := "copperplate/copperplatelaw13.ParseTells", spec := "parseTells", unfollowed := true, recurses := true, apart := false, narrowed := true }
def ParseTellsUptoSaid : Prop := parseTellsUptoRow.holds Try.pinned (OpenSpec.upto parseTellsSpec)

/-- 'copperplatelaw13.ParseFirst', WHERE WHAT IT READS IS OF BULK AT MOST 1048576: true; the input reads as it did. -/
def parseFirstUptoRow : OpenClaim := { program := "ytfbaebekpkfijaa", sum := "14e0507c2489584efa2f0f049fde0bd2499241e8f91246690b176ffb84b20648", func := "copperplate/copperplatelaw13.ParseFirst", spec := "parseFirst", unfollowed := true, recurses := true, apart := false, narrowed := true }
def ParseFirstUptoSaid : Prop := parseFirstUptoRow.holds Try.pinned (OpenSpec.upto parseFirstSpec)

/-- 'copperplatelaw13.ParseSteps', WHERE WHAT IT READS IS OF BULK AT MOST 1048576: true; the input reads as it did. -/
def parseStepsUptoRow : OpenClaim := { program := "ytfbaebekpkfijaa", sum := "14e0507c2489584efa2f0f049fde0bd2499241e8f91246690b176ffb84b20648", func := "copperplate/copperplatelaw13.ParseSteps", spec := "parseSteps", unfollowed := true, recurses := true, apart := false, narrowed := true }
def ParseStepsUptoSaid : Prop := parseStepsUptoRow.holds Try.pinned (OpenSpec.upto parseStepsSpec)

/-- 'copperplatelaw13.ParseNames', WHERE WHAT IT READS IS OF BULK AT MOST 1048576: true; the input reads as it did. -/
def parseNamesUptoRow : OpenClaim := { program := "ytfbaebekpkfijaa", sum := "14e0507c2489584efa2f0f049fde0bd2499241e8f91246690b176ffb84b20648", func := "copperplate/copperplatelaw13.ParseNames", spec := "parseNames", unfollowed := true, recurses := true, apart := false, narrowed := true }
def ParseNamesUptoSaid : Prop := parseNamesUptoRow.holds Try.pinned (OpenSpec.upto parseNamesSpec)

/-- 'copperplatelaw13.ParseBraces', WHERE WHAT IT READS IS OF BULK AT MOST 1048576: true; the input reads as it did. -/
def parseBracesUptoRow : OpenClaim := { program := "ytfbaebekpkfijaa", sum := "14e0507c2489584efa2f0f049fde0bd2499241e8f91246690b176ffb84b20648", func := "copperplate/copperplatelaw13.ParseBraces", spec := "parseBraces", unfollowed := true, recurses := true, apart := false, narrowed := true }
def ParseBracesUptoSaid : Prop := parseBracesUptoRow.holds Try.pinned (OpenSpec.upto parseBracesSpec)

/-- 'copperplatelaw13.ParseJoins', WHERE WHAT IT READS IS OF BULK AT MOST 1048576: true; the input reads as it did. -/
def parseJoinsUptoRow : OpenClaim := { program := "ytfbaebekpkfijaa", sum := "14e0507c2489584efa2f0f049fde0bd2499241e8f91246690b176ffb84b20648", func := "copperplate/copperplatelaw13.ParseJoins", spec := "parseJoins", unfollowed := true, recurses := true, apart := false, narrowed := true }
def ParseJoinsUptoSaid : Prop := parseJoinsUptoRow.holds Try.pinned (OpenSpec.upto parseJoinsSpec)

/-- 'copperplatelaw13.ParseNone', WHERE WHAT IT READS IS OF BULK AT MOST 1048576: true; the input reads as it did. -/
def parseNoneUptoRow : OpenClaim := { program := "ytfbaebekpkfijaa", sum := "14e0507c2489584efa2f0f049fde0bd2499241e8f91246690b176ffb84b20648", func := "copperplate/copperplatelaw13.ParseNone", spec := "parseNone", unfollowed := true, recurses := true, apart := false, narrowed := true }
def ParseNoneUptoSaid : Prop := parseNoneUptoRow.holds Try.pinned (OpenSpec.upto parseNoneSpec)

/-- 'copperplatelaw15.DepthParsed', WHERE WHAT IT READS IS OF BULK AT MOST 1048576: true; the input reads as it did. -/
def depthParsedUptoRow : OpenClaim := { program := "ytfbaebekpkfijaa", sum := "14e0507c2489584efa2f0f049fde0bd2499241e8f91246690b176ffb84b20648", func := "copperplate/copperplatelaw15.DepthParsed", spec := "depthParsed", unfollowed := true, recurses := true, apart := false, narrowed := true }
def DepthParsedUptoSaid : Prop := depthParsedUptoRow.holds Try.pinned (OpenSpec.upto depthParsedSpec)

/-- 'copperplatelaw14.YieldBack', WHERE WHAT IT READS IS OF BULK AT MOST 1048576: true; the input reads as it did. -/
def yieldBackUptoRow : OpenClaim := { program := "ytfbaebekpkfijaa", sum := "14e0507c2489584efa2f0f049fde0bd2499241e8f91246690b176ffb84b20648", func := "copperplate/copperplatelaw14.YieldBack", spec := "yieldBack", unfollowed := true, recurses := true, apart := false, narrowed := true }
def YieldBackUptoSaid : Prop := yieldBackUptoRow.holds Try.pinned (OpenSpec.upto yieldBackSpec)

/-- 'copperplatelaw14.YieldOnly', WHERE WHAT IT READS IS OF BULK AT MOST 1048576: true; the input reads as it did. -/
def yieldOnlyUptoRow : OpenClaim := { program := "ytfbaebekpkfijaa", sum := "14e0507c2489584efa2f0f049fde0bd2499241e8f91246690b176ffb84b20648", func := "copperplate/copperplatelaw14.YieldOnly", spec := "yieldOnly", unfollowed := true, recurses := true, apart := false, narrowed := true }
def YieldOnlyUptoSaid : Prop := yieldOnlyUptoRow.holds Try.pinned (OpenSpec.upto yieldOnlySpec)

end Rows
end Go.Proofs.Ytfbaebekpkfijaa
