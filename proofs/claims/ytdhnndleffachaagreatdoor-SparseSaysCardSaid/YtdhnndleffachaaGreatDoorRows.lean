/-
  NARROWER THAN 'FOR EVERY INPUT', by the rows' own cells (each row's printed sentence says how): DeadSays: laid · ThreadSays: laid · ValueSays: laid · ValueLoud: laid · SparseSays: laid · SparseLoud: laid · OutSays: laid · OutRegs: laid.
  DERIVED. THE GIVEN ROWS OF THIS SEAT. 8 by the template 'for every input the law returns true; each argument reads behind the call as it read before'; 0 by the template 'total and deterministic' (their statements: YtdhnndleffachaaGreatDoorTotals.lean).
  GIVEN WITH THE SEED: the statements are not yours to turn. If you find one false, say at which input.
  Laid BY PROGRAM, IN A SANDBOX (cutbox-rows.mjs): the forced cells as the released guide's own fill.sh prints them over the translation 7c04588013e3be42… (all of the seat's roots in one cut). By AI agents, Wed Nov 11 2026. No macro, syntax, notation, axiom, sorry.
-/
import Derived.Test.YtdhnndleffachaaGreatDoorChecked
import GoSem.Claim
import GoSem.ClaimJoined
import GoSem.ClaimMapViews
import Derived.JoinedTies
import Derived.KernelRfl
namespace Go.Proofs.YtdhnndleffachaaGreatDoor
/- THE CELL 'sum', in the pinned program and in every row, IS THE sha256 OF THE DUMP (.gsa) THAT YtdhnndleffachaaGreatDoorProg.lean LOADS. Nothing in Lean hashes anything: it is a label: what it is worth is what the hold of that sum in a sandbox is worth. -/
noncomputable def Tryz.pinned : Pinned := { name := "ytdhnndleffachaagreatdoor", sum := "7c04588013e3be42fcd5ec014f23d43a85721710befeb646795e5480701b3114", checked := Tryz.checked }
namespace Rows
def none {H : Type} : Left H := { results := [], args := [] }

/- WHAT THE LISTED PACKAGE-LEVEL VARIABLES READ AS WHEN THE CALL BEGINS. Each datum BY PROGRAM (the guide's laid-datum.mjs) off the statement by which the dump's own 'gosem.cut.vars' lays the variable. In a bare row this is a premise. The card (YtdhnndleffachaaGreatDoorCards.lean) ties it to the program's text. -/
def laid_turnery_code_ways {H : Type} : DataW H := .agg [.lit (.int .i64 0), .lit (.int .i64 0), .lit (.int .i64 1), .lit (.int .i64 2)]

/-- 'turnerylaw4.DeadSays': WHATEVER THE INPUT: true; the input reads as it did. -/
def deadSaysSpec : ChangeSpec := { name := "deadSays", fn := fun _ => fun
  | [d] => { results := [.lit (.bool true)], args := [d] }
  | _ => none }
def deadSaysRow : OpenClaim := { program := "ytdhnndleffachaagreatdoor", sum := "7c04588013e3be42fcd5ec014f23d43a85721710befeb646795e5480701b3114", func := "turnery/turnerylaw4.DeadSays", spec := "deadSays", inPlace := ["slices.overlaps[turnery/api.Val]"], unfollowed := true, recurses := true, named := ["turnery/code.ways"], plainKeys := false, apart := false, laid := [("turnery/code.ways", laid_turnery_code_ways)] }
def DeadSaysSaid : Prop := deadSaysRow.holds Tryz.pinned (OpenSpec.ofChange deadSaysSpec)

/-- ITS FALSE NEIGHBOUR: 'it returns false'. Refute it at one input. -/
def deadSaysWrong : ChangeSpec := { name := "deadSays", fn := fun _ => fun
  | [d] => { results := [.lit (.bool false)], args := [d] }
  | _ => none }
def DeadSaysWrongFalsely : Prop := deadSaysRow.holds Tryz.pinned (OpenSpec.ofChange deadSaysWrong)

/-- 'turnerylaw4.ThreadSays': WHATEVER THE INPUT: true; the input reads as it did. -/
def threadSaysSpec : ChangeSpec := { name := "threadSays", fn := fun _ => fun
  | [d] => { results := [.lit (.bool true)], args := [d] }
  | _ => none }
def threadSaysRow : OpenClaim := { program := "ytdhnndleffachaagreatdoor", sum := "7c04588013e3be42fcd5ec014f23d43a85721710befeb646795e5480701b3114", func := "turnery/turnerylaw4.ThreadSays", spec := "threadSays", inPlace := ["slices.overlaps[turnery/api.Val]"], unfollowed := true, recurses := true, named := ["turnery/code.ways"], plainKeys := false, apart := false, laid := [("turnery/code.ways", laid_turnery_code_ways)] }
def ThreadSaysSaid : Prop := threadSaysRow.holds Tryz.pinned (OpenSpec.ofChange threadSaysSpec)

/-- ITS FALSE NEIGHBOUR: 'it returns false'. Refute it at one input. -/
def threadSaysWrong : ChangeSpec := { name := "threadSays", fn := fun _ => fun
  | [d] => { results := [.lit (.bool false)], args := [d] }
  | _ => none }
def ThreadSaysWrongFalsely : Prop := threadSaysRow.holds Tryz.pinned (OpenSpec.ofChange threadSaysWrong)

/-- 'turnerylaw4.ValueSays': WHATEVER THE INPUT: true; the input reads as it did. -/
def valueSaysSpec : ChangeSpec := { name := "valueSays", fn := fun _ => fun
  | [d] => { results := [.lit (.bool true)], args := [d] }
  | _ => none }
def valueSaysRow : OpenClaim := { program := "ytdhnndleffachaagreatdoor", sum := "7c04588013e3be42fcd5ec014f23d43a85721710befeb646795e5480701b3114", func := "turnery/turnerylaw4.ValueSays", spec := "valueSays", inPlace := ["slices.overlaps[turnery/api.Val]"], unfollowed := true, recurses := true, named := ["turnery/code.ways"], plainKeys := false, apart := false, laid := [("turnery/code.ways", laid_turnery_code_ways)] }
def ValueSaysSaid : Prop := valueSaysRow.holds Tryz.pinned (OpenSpec.ofChange valueSaysSpec)

/-- ITS FALSE NEIGHBOUR: 'it returns false'. Refute it at one input. -/
def valueSaysWrong : ChangeSpec := { name := "valueSays", fn := fun _ => fun
  | [d] => { results := [.lit (.bool false)], args := [d] }
  | _ => none }
def ValueSaysWrongFalsely : Prop := valueSaysRow.holds Tryz.pinned (OpenSpec.ofChange valueSaysWrong)

/-- 'turnerylaw4.ValueLoud': WHATEVER THE INPUT: true; the input reads as it did. -/
def valueLoudSpec : ChangeSpec := { name := "valueLoud", fn := fun _ => fun
  | [d] => { results := [.lit (.bool true)], args := [d] }
  | _ => none }
def valueLoudRow : OpenClaim := { program := "ytdhnndleffachaagreatdoor", sum := "7c04588013e3be42fcd5ec014f23d43a85721710befeb646795e5480701b3114", func := "turnery/turnerylaw4.ValueLoud", spec := "valueLoud", inPlace := ["slices.overlaps[turnery/api.Val]"], unfollowed := true, recurses := true, named := ["turnery/code.ways"], plainKeys := false, apart := false, laid := [("turnery/code.ways", laid_turnery_code_ways)] }
def ValueLoudSaid : Prop := valueLoudRow.holds Tryz.pinned (OpenSpec.ofChange valueLoudSpec)

/-- ITS FALSE NEIGHBOUR: 'it returns false'. Refute it at one input. -/
def valueLoudWrong : ChangeSpec := { name := "valueLoud", fn := fun _ => fun
  | [d] => { results := [.lit (.bool false)], args := [d] }
  | _ => none }
def ValueLoudWrongFalsely : Prop := valueLoudRow.holds Tryz.pinned (OpenSpec.ofChange valueLoudWrong)

/-- 'turnerylaw4.SparseSays': WHATEVER THE INPUT: true; the input reads as it did. -/
def sparseSaysSpec : ChangeSpec := { name := "sparseSays", fn := fun _ => fun
  | [d] => { results := [.lit (.bool true)], args := [d] }
  | _ => none }
def sparseSaysRow : OpenClaim := { program := "ytdhnndleffachaagreatdoor", sum := "7c04588013e3be42fcd5ec014f23d43a85721710befeb646795e5480701b3114", func := "turnery/turnerylaw4.SparseSays", spec := "sparseSays", inPlace := ["slices.overlaps[turnery/api.Val]"], unfollowed := true, recurses := true, named := ["turnery/code.ways"], plainKeys := false, apart := false, laid := [("turnery/code.ways", laid_turnery_code_ways)] }
def SparseSaysSaid : Prop := sparseSaysRow.holds Tryz.pinned (OpenSpec.ofChange sparseSaysSpec)

/-- ITS FALSE NEIGHBOUR: 'it returns false'. Refute it at one input. -/
def sparseSaysWrong : ChangeSpec := { name := "sparseSays", fn := fun _ => fun
  | [d] => { results := [.lit (.bool false)], args := [d] }
  | _ => none }
def SparseSaysWrongFalsely : Prop := sparseSaysRow.holds Tryz.pinned (OpenSpec.ofChange sparseSaysWrong)

/-- 'turnerylaw4.SparseLoud': WHATEVER THE INPUT: true; the input reads as it did. -/
def sparseLoudSpec : ChangeSpec := { name := "sparseLoud", fn := fun _ => fun
  | [d] => { results := [.lit (.bool true)], args := [d] }
  | _ => none }
def sparseLoudRow : OpenClaim := { program := "ytdhnndleffachaagreatdoor", sum := "7c04588013e3be42fcd5ec014f23d43a85721710befeb646795e5480701b3114", func := "turnery/turnerylaw4.SparseLoud", spec := "sparseLoud", inPlace := ["slices.overlaps[turnery/api.Val]"], unfollowed := true, recurses := true, named := ["turnery/code.ways"], plainKeys := false, apart := false, laid := [("turnery/code.ways", laid_turnery_code_ways)] }
def SparseLoudSaid : Prop := sparseLoudRow.holds Tryz.pinned (OpenSpec.ofChange sparseLoudSpec)

/-- ITS FALSE NEIGHBOUR: 'it returns false'. Refute it at one input. -/
def sparseLoudWrong : ChangeSpec := { name := "sparseLoud", fn := fun _ => fun
  | [d] => { results := [.lit (.bool false)], args := [d] }
  | _ => none }
def SparseLoudWrongFalsely : Prop := sparseLoudRow.holds Tryz.pinned (OpenSpec.ofChange sparseLoudWrong)

/-- 'turnerylaw4.OutSays': WHATEVER THE INPUT: true; the input reads as it did. -/
def outSaysSpec : ChangeSpec := { name := "outSays", fn := fun _ => fun
  | [d] => { results := [.lit (.bool true)], args := [d] }
  | _ => none }
def outSaysRow : OpenClaim := { program := "ytdhnndleffachaagreatdoor", sum := "7c04588013e3be42fcd5ec014f23d43a85721710befeb646795e5480701b3114", func := "turnery/turnerylaw4.OutSays", spec := "outSays", inPlace := ["slices.overlaps[turnery/api.Val]"], unfollowed := true, recurses := true, named := ["turnery/code.ways"], plainKeys := false, apart := false, laid := [("turnery/code.ways", laid_turnery_code_ways)] }
def OutSaysSaid : Prop := outSaysRow.holds Tryz.pinned (OpenSpec.ofChange outSaysSpec)

/-- ITS FALSE NEIGHBOUR: 'it returns false'. Refute it at one input. -/
def outSaysWrong : ChangeSpec := { name := "outSays", fn := fun _ => fun
  | [d] => { results := [.lit (.bool false)], args := [d] }
  | _ => none }
def OutSaysWrongFalsely : Prop := outSaysRow.holds Tryz.pinned (OpenSpec.ofChange outSaysWrong)

/-- 'turnerylaw4.OutRegs': WHATEVER THE INPUT: true; the input reads as it did. -/
def outRegsSpec : ChangeSpec := { name := "outRegs", fn := fun _ => fun
  | [d] => { results := [.lit (.bool true)], args := [d] }
  | _ => none }
def outRegsRow : OpenClaim := { program := "ytdhnndleffachaagreatdoor", sum := "7c04588013e3be42fcd5ec014f23d43a85721710befeb646795e5480701b3114", func := "turnery/turnerylaw4.OutRegs", spec := "outRegs", inPlace := ["slices.overlaps[turnery/api.Val]"], unfollowed := true, recurses := true, named := ["turnery/code.ways"], plainKeys := false, apart := false, laid := [("turnery/code.ways", laid_turnery_code_ways)] }
def OutRegsSaid : Prop := outRegsRow.holds Tryz.pinned (OpenSpec.ofChange outRegsSpec)

/-- ITS FALSE NEIGHBOUR: 'it returns false'. Refute it at one input. -/
def outRegsWrong : ChangeSpec := { name := "outRegs", fn := fun _ => fun
  | [d] => { results := [.lit (.bool false)], args := [d] }
  | _ => none }
def OutRegsWrongFalsely : Prop := outRegsRow.holds Tryz.pinned (OpenSpec.ofChange outRegsWrong)

/- THE SECOND FORM. 'bulk': how many values and letters a reading holds, each counted each time it is reached (what is shared counts as often as it is met; a slice's spare places count too). A statement '..UptoSaid' is the law's where the arguments, and the package variables that the reading takes, are together of bulk at most 1048576: NARROWER than '..Said'. Prove '..Said' where nothing that the law and all that it calls make is longer than what came in: it says more and counts as full. Else prove '..UptoSaid'. A law counts once. -/
mutual
def uptoBulk {H : Type} : DataW H → Nat
  | .lit (.string bytes) => bytes.length + 1
  | .lit _ => 1
  | .nil => 1
  | .ptr d => uptoBulk d + 1
  | .slice elems spare => uptoBulkAll elems + uptoBulkAll spare + 1
  | .agg parts => uptoBulkAll parts + 1
  | .iface _ d => uptoBulk d + 1
  | .map entries => uptoBulkEntries entries + 1
  | .held _ => 1
def uptoBulkAll {H : Type} : List (DataW H) → Nat
  | [] => 0
  | d :: r => uptoBulk d + uptoBulkAll r
def uptoBulkEntries {H : Type} : List (Lit × DataW H) → Nat
  | [] => 0
  | x :: r => uptoBulkEntry x + uptoBulkEntries r
def uptoBulkEntry {H : Type} : Lit × DataW H → Nat
  | (.string bytes, d) => bytes.length + uptoBulk d + 1
  | (_, d) => uptoBulk d + 1
 end
def uptoSmall : (H : Type) → List (DataW H) → Bool := fun _ ds => decide (uptoBulkAll ds ≤ 1048576)
def OpenSpec.upto (s : _root_.Go.ChangeSpec) : _root_.Go.OpenSpec := { _root_.Go.OpenSpec.ofChange s with cond := some uptoSmall }

/-- 'turnerylaw4.DeadSays', WHERE WHAT IT READS IS OF BULK AT MOST 1048576: true; the input reads as it did. -/
def deadSaysUptoRow : OpenClaim := { program := "ytdhnndleffachaagreatdoor", sum := "7c04588013e3be42fcd5ec014f23d43a85721710befeb646795e5480701b3114", func := "turnery/turnerylaw4.DeadSays", spec := "deadSays", inPlace := ["slices.overlaps[turnery/api.Val]"], unfollowed := true, recurses := true, named := ["turnery/code.ways"], plainKeys := false, apart := false, laid := [("turnery/code.ways", laid_turnery_code_ways)], narrowed := true }
def DeadSaysUptoSaid : Prop := deadSaysUptoRow.holds Tryz.pinned (OpenSpec.upto deadSaysSpec)

/-- 'turnerylaw4.ThreadSays', WHERE WHAT IT READS IS OF BULK AT MOST 1048576: true; the input reads as it did. -/
def threadSaysUptoRow : OpenClaim := { program := "ytdhnndleffachaagreatdoor", sum := "7c04588013e3be42fcd5ec014f23d43a85721710befeb646795e5480701b3114", func := "turnery/turnerylaw4.ThreadSays", spec := "threadSays", inPlace := ["slices.overlaps[turnery/api.Val]"], unfollowed := true, recurses := true, named := ["turnery/code.ways"], plainKeys := false, apart := false, laid := [("turnery/code.ways", laid_turnery_code_ways)], narrowed := true }
def ThreadSaysUptoSaid : Prop := threadSaysUptoRow.holds Tryz.pinned (OpenSpec.upto threadSaysSpec)

/-- 'turnerylaw4.ValueSays', WHERE WHAT IT READS IS OF BULK AT MOST 1048576: true; the input reads as it did. -/
def valueSaysUptoRow : OpenClaim := { program := "ytdhnndleffachaagreatdoor", sum := "7c04588013e3be42fcd5ec014f23d43a85721710befeb646795e5480701b3114", func := "turnery/turnerylaw4.ValueSays", spec := "valueSays", inPlace := ["slices.overlaps[turnery/api.Val]"], unfollowed := true, recurses := true, named := ["turnery/code.ways"], plainKeys := false, apart := false, laid := [("turnery/code.ways", laid_turnery_code_ways)], narrowed := true }
def ValueSaysUptoSaid : Prop := valueSaysUptoRow.holds Tryz.pinned (OpenSpec.upto valueSaysSpec)

/-- 'turnerylaw4.ValueLoud', WHERE WHAT IT READS IS OF BULK AT MOST 1048576: true; the input reads as it did. -/
def valueLoudUptoRow : OpenClaim := { program := "ytdhnndleffachaagreatdoor", sum := "7c04588013e3be42fcd5ec014f23d43a85721710befeb646795e5480701b3114", func := "turnery/turnerylaw4.ValueLoud", spec := "valueLoud", inPlace := ["slices.overlaps[turnery/api.Val]"], unfollowed := true, recurses := true, named := ["turnery/code.ways"], plainKeys := false, apart := false, laid := [("turnery/code.ways", laid_turnery_code_ways)], narrowed := true }
def ValueLoudUptoSaid : Prop := valueLoudUptoRow.holds Tryz.pinned (OpenSpec.upto valueLoudSpec)

/-- 'turnerylaw4.SparseSays', WHERE WHAT IT READS IS OF BULK AT MOST 1048576: true; the input reads as it did. -/
def sparseSaysUptoRow : OpenClaim := { program := "ytdhnndleffachaagreatdoor", sum := "7c04588013e3be42fcd5ec014f23d43a85721710befeb646795e5480701b3114", func := "turnery/turnerylaw4.SparseSays", spec := "sparseSays", inPlace := ["slices.overlaps[turnery/api.Val]"], unfollowed := true, recurses := true, named := ["turnery/code.ways"], plainKeys := false, apart := false, laid := [("turnery/code.ways", laid_turnery_code_ways)], narrowed := true }
def SparseSaysUptoSaid : Prop := sparseSaysUptoRow.holds Tryz.pinned (OpenSpec.upto sparseSaysSpec)

/-- 'turnerylaw4.SparseLoud', WHERE WHAT IT READS IS OF BULK AT MOST 1048576: true; the input reads as it did. -/
def sparseLoudUptoRow : OpenClaim := { program := "ytdhnndleffachaagreatdoor", sum := "7c04588013e3be42fcd5ec014f23d43a85721710befeb646795e5480701b3114", func := "turnery/turnerylaw4.SparseLoud", spec := "sparseLoud", inPlace := ["slices.overlaps[turnery/api.Val]"], unfollowed := true, recurses := true, named := ["turnery/code.ways"], plainKeys := false, apart := false, laid := [("turnery/code.ways", laid_turnery_code_ways)], narrowed := true }
def SparseLoudUptoSaid : Prop := sparseLoudUptoRow.holds Tryz.pinned (OpenSpec.upto sparseLoudSpec)

/-- 'turnerylaw4.OutSays', WHERE WHAT IT READS IS OF BULK AT MOST 1048576: true; the input reads as it did. -/
def outSaysUptoRow : OpenClaim := { program := "ytdhnndleffachaagreatdoor", sum := "7c04588013e3be42fcd5ec014f23d43a85721710befeb646795e5480701b3114", func := "turnery/turnerylaw4.OutSays", spec := "outSays", inPlace := ["slices.overlaps[turnery/api.Val]"], unfollowed := true, recurses := true, named := ["turnery/code.ways"], plainKeys := false, apart := false, laid := [("turnery/code.ways", laid_turnery_code_ways)], narrowed := true }
def OutSaysUptoSaid : Prop := outSaysUptoRow.holds Tryz.pinned (OpenSpec.upto outSaysSpec)

/-- 'turnerylaw4.OutRegs', WHERE WHAT IT READS IS OF BULK AT MOST 1048576: true; the input reads as it did. -/
def outRegsUptoRow : OpenClaim := { program := "ytdhnndleffachaagreatdoor", sum := "7c04588013e3be42fcd5ec014f23d43a85721710befeb646795e5480701b3114", func := "turnery/turnerylaw4.OutRegs", spec := "outRegs", inPlace := ["slices.overlaps[turnery/api.Val]"], unfollowed := true, recurses := true, named := ["turnery/code.ways"], plainKeys := false, apart := false, laid := [("turnery/code.ways", laid_turnery_code_ways)], narrowed := true }
def OutRegsUptoSaid : Prop := outRegsUptoRow.holds Tryz.pinned (OpenSpec.upto outRegsSpec)

end Rows
end Go.Proofs.YtdhnndleffachaaGreatDoor
