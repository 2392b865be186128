import Derived.Test.YtdnaadcbimbfmaaChecked
import Derived.Laws.BytesString
import Derived.IntWalk
import Derived.ProofKit
import Derived.Laws.StructEq
import Derived.ChangeKeysEq
import Derived.Lib.AppendZerosOnto
import Derived.Laws.CopyRow
import Derived.WalkKit
import Derived.StillTailTactics
import Derived.Handy
import Derived.Shelf.RegionOpenPlain
import Derived.Lib.Walk
import Derived.Lib.SliceRun
import Derived.Lib.Overlaps
import Derived.Laws.NewBlocks
import Derived.Laws.Externs
import Derived.Test.YtdnaadcbimbfmaaG5
set_option linter.unusedSimpArgs false
set_option linter.unusedVariables false
namespace Go.Proofs.Ytdnaadcbimbfmaa
open Go Go.RowKit Am
theorem tok2 : TOK Try.prog 2 ti2:=tok_flat (.int .i64 0) (by kernel_rfl) (fun w=>by kernel_rfl) (fun w=>by kernel_rfl) (trivial) (.inr rfl) (fun w=>by kernel_rfl) rfl (by decide) rfl (show Try.prog.underlying 2 = some (.int .i64) from by kernel_rfl)
theorem tok3 : TOK Try.prog 3 ti3:=tok_flat (.int .i64 0) (by kernel_rfl) (fun w=>by kernel_rfl) (fun w=>by kernel_rfl) (trivial) (.inr rfl) (fun w=>by kernel_rfl) rfl (by decide) rfl (show Try.prog.underlying 3 = some (.int .i64) from by kernel_rfl)
theorem tok4 : TOK Try.prog 4 ti4:=tok_flat (.bool false) (by kernel_rfl) (fun w=>by kernel_rfl) (fun w=>by kernel_rfl) (trivial) (.inr rfl) (fun w=>by kernel_rfl) rfl (by decide) rfl (trivial)
theorem tok5 : TOK Try.prog 5 ti5:=tok_flat (.int .u8 0) (by kernel_rfl) (fun w=>by kernel_rfl) (fun w=>by kernel_rfl) (trivial) (.inr rfl) (fun w=>by kernel_rfl) rfl (by decide) rfl (show Try.prog.underlying 5 = some (.int .u8) from by kernel_rfl)
theorem tok9 : TOK Try.prog 9 ti9:=tok_flat (.string ⟨#[]⟩) (by kernel_rfl) (fun w=>by kernel_rfl) (fun w=>by kernel_rfl) (trivial) (.inr rfl) (fun w=>by kernel_rfl) rfl (by decide) rfl (show Try.prog.underlying 9 = some .string from by kernel_rfl)
theorem tok12 : TOK Try.prog 12 ti12:=tok_flat (.int .u64 0) (by kernel_rfl) (fun w=>by kernel_rfl) (fun w=>by kernel_rfl) (trivial) (.inr rfl) (fun w=>by kernel_rfl) rfl (by decide) rfl (show Try.prog.underlying 12 = some (.int .u64) from by kernel_rfl)
theorem tok21 : TOK Try.prog 21 ti21:=tok_flat (.int .i32 0) (by kernel_rfl) (fun w=>by kernel_rfl) (fun w=>by kernel_rfl) (trivial) (.inr rfl) (fun w=>by kernel_rfl) rfl (by decide) rfl (show Try.prog.underlying 21 = some (.int .i32) from by kernel_rfl)
theorem tok22 : TOK Try.prog 22 ti22:=tok_flat (.slice none 0 0) (by kernel_rfl) (fun w=>by kernel_rfl) (fun w=>by kernel_rfl) (trivial) (.inr rfl) (fun w=>by kernel_rfl) rfl (by decide) rfl (sli_fact (z:=.agg #[.int .i64 0,.int .i64 0,.int .i64 0,.int .i64 0,.int .i64 0,.int .i64 0,.int .i64 0,.int .i64 0,.int .i64 0,.int .i64 0,.int .i64 0,.int .i64 0,.int .i64 0,.int .i64 0,.int .i64 0,.int .i64 0,.int .i64 0,.int .i64 0,.int .i64 0,.int .i64 0,.string ⟨#[]⟩,.string ⟨#[]⟩,.string ⟨#[]⟩,.int .i64 0,.int .i64 0,.int .i64 0]) (by kernel_rfl) (by decide) (by decide) (by kernel_rfl) rfl)
theorem tok28 : TOK Try.prog 28 ti28:=tok_flat (.agg #[.int .i64 0,.int .i64 0,.int .i64 0,.int .i64 0,.int .i64 0,.int .i64 0,.int .i64 0,.int .i64 0,.int .i64 0,.int .i64 0,.int .i64 0,.int .i64 0,.int .i64 0,.int .i64 0,.int .i64 0,.int .i64 0]) (by kernel_rfl) (fun w=>by kernel_rfl) (fun w=>by kernel_rfl) (trivial) (.inl rfl) (fun w=>by kernel_rfl) rfl (by decide) rfl (⟨3,by kernel_rfl,fun w=>by kernel_rfl⟩)
theorem tok29 : TOK Try.prog 29 ti29:=tok_flat (.agg #[.int .i64 0,.int .i64 0,.int .i64 0,.int .i64 0,.int .i64 0,.int .i64 0,.int .i64 0,.int .i64 0,.int .i64 0,.int .i64 0,.int .i64 0,.int .i64 0,.int .i64 0,.int .i64 0,.int .i64 0,.int .i64 0]) (by kernel_rfl) (fun w=>by kernel_rfl) (fun w=>by kernel_rfl) (trivial) (.inl rfl) (fun w=>by kernel_rfl) rfl (by decide) rfl (⟨3,by kernel_rfl,fun w=>by kernel_rfl⟩)
theorem tok32 : TOK Try.prog 32 ti32:=tok_flat (.agg #[.int .i64 0,.int .i64 0]) (by kernel_rfl) (fun w=>by kernel_rfl) (fun w=>by kernel_rfl) (⟨fun a w=>by kernel_rfl,⟨fun a w=>by kernel_rfl,trivial⟩⟩) (.inl rfl) (fun w=>by kernel_rfl) rfl (by decide) rfl (struct_fact (fun w=>by kernel_rfl))
theorem tok33 : TOK Try.prog 33 ti33:=tok_flat (.agg #[.int .i64 0,.int .i64 0]) (by kernel_rfl) (fun w=>by kernel_rfl) (fun w=>by kernel_rfl) (⟨fun a w=>by kernel_rfl,⟨fun a w=>by kernel_rfl,trivial⟩⟩) (.inl rfl) (fun w=>by kernel_rfl) rfl (by decide) rfl (struct_fact (fun w=>by kernel_rfl))
theorem tok34 : TOK Try.prog 34 ti34:=tok_flat (.agg #[.int .i64 0,.string ⟨#[]⟩,.string ⟨#[]⟩,.string ⟨#[]⟩,.int .i64 0,.int .i64 0,.int .i64 0]) (by kernel_rfl) (fun w=>by kernel_rfl) (fun w=>by kernel_rfl) (⟨fun a w=>by kernel_rfl,⟨fun a w=>by kernel_rfl,⟨fun a w=>by kernel_rfl,⟨fun a w=>by kernel_rfl,⟨fun a w=>by kernel_rfl,⟨fun a w=>by kernel_rfl,trivial⟩⟩⟩⟩⟩⟩) (.inl rfl) (fun w=>by kernel_rfl) rfl (by decide) rfl (struct_fact (fun w=>by kernel_rfl))
theorem tok35 : TOK Try.prog 35 ti35:=tok_flat (.agg #[.int .i64 0,.string ⟨#[]⟩,.string ⟨#[]⟩,.string ⟨#[]⟩,.int .i64 0,.int .i64 0,.int .i64 0]) (by kernel_rfl) (fun w=>by kernel_rfl) (fun w=>by kernel_rfl) (⟨fun a w=>by kernel_rfl,⟨fun a w=>by kernel_rfl,⟨fun a w=>by kernel_rfl,⟨fun a w=>by kernel_rfl,⟨fun a w=>by kernel_rfl,⟨fun a w=>by kernel_rfl,trivial⟩⟩⟩⟩⟩⟩) (.inl rfl) (fun w=>by kernel_rfl) rfl (by decide) rfl (struct_fact (fun w=>by kernel_rfl))
theorem tok36 : TOK Try.prog 36 ti36:=tok_flat (.agg #[.int .i64 0,.int .i64 0,.int .i64 0,.int .i64 0,.int .i64 0,.int .i64 0,.int .i64 0,.int .i64 0,.int .i64 0,.int .i64 0,.int .i64 0,.int .i64 0,.int .i64 0,.int .i64 0,.int .i64 0,.int .i64 0,.int .i64 0,.int .i64 0,.int .i64 0,.int .i64 0,.string ⟨#[]⟩,.string ⟨#[]⟩,.string ⟨#[]⟩,.int .i64 0,.int .i64 0,.int .i64 0]) (by kernel_rfl) (fun w=>by kernel_rfl) (fun w=>by kernel_rfl) (⟨fun a w=>by kernel_rfl,⟨fun a w=>by kernel_rfl,⟨fun a w=>by kernel_rfl,⟨fun a w=>by kernel_rfl,trivial⟩⟩⟩⟩) (.inl rfl) (fun w=>by kernel_rfl) rfl (by decide) rfl (struct_fact (fun w=>by kernel_rfl))
theorem tok37 : TOK Try.prog 37 ti37:=tok_flat (.agg #[.int .i64 0,.int .i64 0,.int .i64 0,.int .i64 0,.int .i64 0,.int .i64 0,.int .i64 0,.int .i64 0,.int .i64 0,.int .i64 0,.int .i64 0,.int .i64 0,.int .i64 0,.int .i64 0,.int .i64 0,.int .i64 0,.int .i64 0,.int .i64 0,.int .i64 0,.int .i64 0,.string ⟨#[]⟩,.string ⟨#[]⟩,.string ⟨#[]⟩,.int .i64 0,.int .i64 0,.int .i64 0]) (by kernel_rfl) (fun w=>by kernel_rfl) (fun w=>by kernel_rfl) (⟨fun a w=>by kernel_rfl,⟨fun a w=>by kernel_rfl,⟨fun a w=>by kernel_rfl,⟨fun a w=>by kernel_rfl,trivial⟩⟩⟩⟩) (.inl rfl) (fun w=>by kernel_rfl) rfl (by decide) rfl (struct_fact (fun w=>by kernel_rfl))
theorem tok38 : TOK Try.prog 38 ti38:=tok_flat (.int .i64 0) (by kernel_rfl) (fun w=>by kernel_rfl) (fun w=>by kernel_rfl) (trivial) (.inr rfl) (fun w=>by kernel_rfl) rfl (by decide) rfl (show Try.prog.underlying 38 = some (.int .i64) from by kernel_rfl)
theorem tok50 : TOK Try.prog 50 ti50:=tok_flat (.map none) (by kernel_rfl) (fun w=>by kernel_rfl) (fun w=>by kernel_rfl) (trivial) (.inr rfl) (fun w=>by kernel_rfl) rfl (by decide) rfl (⟨by kernel_rfl,by kernel_rfl⟩)
theorem tok51 : TOK Try.prog 51 ti51:=tok_flat (.agg #[.map none,.int .i64 0,.int .i64 0,.int .i64 0,.int .i64 0,.int .i64 0,.int .i64 0,.int .i64 0,.int .i64 0,.int .i64 0,.int .i64 0,.int .i64 0,.int .i64 0,.int .i64 0,.int .i64 0,.int .i64 0,.int .i64 0,.int .i64 0]) (by kernel_rfl) (fun w=>by kernel_rfl) (fun w=>by kernel_rfl) (⟨fun a w=>by kernel_rfl,⟨fun a w=>by kernel_rfl,⟨fun a w=>by kernel_rfl,trivial⟩⟩⟩) (.inl rfl) (fun w=>by kernel_rfl) rfl (by decide) rfl (struct_fact (fun w=>by kernel_rfl))
theorem tok52 : TOK Try.prog 52 ti52:=tok_flat (.agg #[.map none,.int .i64 0,.int .i64 0,.int .i64 0,.int .i64 0,.int .i64 0,.int .i64 0,.int .i64 0,.int .i64 0,.int .i64 0,.int .i64 0,.int .i64 0,.int .i64 0,.int .i64 0,.int .i64 0,.int .i64 0,.int .i64 0,.int .i64 0]) (by kernel_rfl) (fun w=>by kernel_rfl) (fun w=>by kernel_rfl) (⟨fun a w=>by kernel_rfl,⟨fun a w=>by kernel_rfl,⟨fun a w=>by kernel_rfl,trivial⟩⟩⟩) (.inl rfl) (fun w=>by kernel_rfl) rfl (by decide) rfl (struct_fact (fun w=>by kernel_rfl))
theorem tok53 : TOK Try.prog 53 ti53:=tok_flat (.slice none 0 0) (by kernel_rfl) (fun w=>by kernel_rfl) (fun w=>by kernel_rfl) (trivial) (.inr rfl) (fun w=>by kernel_rfl) rfl (by decide) rfl (sli_fact (z:=.int .u8 0) (by kernel_rfl) (by decide) (by decide) (by kernel_rfl) rfl)
theorem tok54 : TOK Try.prog 54 ti54:=tok_flat (.slice none 0 0) (by kernel_rfl) (fun w=>by kernel_rfl) (fun w=>by kernel_rfl) (trivial) (.inr rfl) (fun w=>by kernel_rfl) rfl (by decide) rfl (sli_fact (z:=.int .i64 0) (by kernel_rfl) (by decide) (by decide) (by kernel_rfl) rfl)
theorem tok56 : TOK Try.prog 56 ti56:=tok_flat (.int .u64 0) (by kernel_rfl) (fun w=>by kernel_rfl) (fun w=>by kernel_rfl) (trivial) (.inr rfl) (fun w=>by kernel_rfl) rfl (by decide) rfl (show Try.prog.underlying 56 = some (.int .u64) from by kernel_rfl)
theorem tok62 : TOK Try.prog 62 ti62:=tok_flat (.slice none 0 0) (by kernel_rfl) (fun w=>by kernel_rfl) (fun w=>by kernel_rfl) (trivial) (.inr rfl) (fun w=>by kernel_rfl) rfl (by decide) rfl (sli_fact (z:=.agg #[.int .i64 0,.int .i64 0,.int .i64 0,.int .i64 0,.int .i64 0,.int .i64 0,.int .i64 0,.int .i64 0,.int .i64 0,.int .i64 0,.int .i64 0,.int .i64 0,.int .i64 0,.int .i64 0,.int .i64 0,.int .i64 0,.int .i64 0,.int .i64 0,.int .i64 0,.int .i64 0,.int .i64 0,.int .i64 0,.string ⟨#[]⟩,.string ⟨#[]⟩,.string ⟨#[]⟩,.int .i64 0,.int .i64 0,.int .i64 0]) (by kernel_rfl) (by decide) (by decide) (by kernel_rfl) rfl)
theorem tok64 : TOK Try.prog 64 ti64:=tok_flat (.agg #[.int .i64 0,.int .i64 0,.int .i64 0,.int .i64 0,.int .i64 0,.int .i64 0,.int .i64 0,.int .i64 0,.int .i64 0,.int .i64 0,.int .i64 0,.int .i64 0,.int .i64 0,.int .i64 0,.int .i64 0,.int .i64 0,.int .i64 0,.int .i64 0,.int .i64 0,.int .i64 0,.int .i64 0,.int .i64 0,.string ⟨#[]⟩,.string ⟨#[]⟩,.string ⟨#[]⟩,.int .i64 0,.int .i64 0,.int .i64 0]) (by kernel_rfl) (fun w=>by kernel_rfl) (fun w=>by kernel_rfl) (⟨fun a w=>by kernel_rfl,⟨fun a w=>by kernel_rfl,trivial⟩⟩) (.inl rfl) (fun w=>by kernel_rfl) rfl (by decide) rfl (struct_fact (fun w=>by kernel_rfl))
theorem tok65 : TOK Try.prog 65 ti65:=tok_flat (.agg #[.int .i64 0,.int .i64 0,.int .i64 0,.int .i64 0,.int .i64 0,.int .i64 0,.int .i64 0,.int .i64 0,.int .i64 0,.int .i64 0,.int .i64 0,.int .i64 0,.int .i64 0,.int .i64 0,.int .i64 0,.int .i64 0,.int .i64 0,.int .i64 0,.int .i64 0,.int .i64 0,.int .i64 0,.int .i64 0,.string ⟨#[]⟩,.string ⟨#[]⟩,.string ⟨#[]⟩,.int .i64 0,.int .i64 0,.int .i64 0]) (by kernel_rfl) (fun w=>by kernel_rfl) (fun w=>by kernel_rfl) (⟨fun a w=>by kernel_rfl,⟨fun a w=>by kernel_rfl,trivial⟩⟩) (.inl rfl) (fun w=>by kernel_rfl) rfl (by decide) rfl (struct_fact (fun w=>by kernel_rfl))
theorem tok67 : TOK Try.prog 67 ti67:=tok_flat (.agg #[.int .i64 0,.int .i64 0,.int .i64 0,.int .i64 0,.int .i64 0,.int .i64 0,.int .i64 0,.int .i64 0,.int .i64 0,.int .i64 0,.int .i64 0,.int .i64 0,.int .i64 0,.int .i64 0,.int .i64 0,.int .i64 0,.int .i64 0,.int .i64 0,.int .i64 0,.int .i64 0,.string ⟨#[]⟩,.string ⟨#[]⟩,.string ⟨#[]⟩,.int .i64 0,.int .i64 0,.int .i64 0,.int .i64 0,.int .i64 0]) (by kernel_rfl) (fun w=>by kernel_rfl) (fun w=>by kernel_rfl) (⟨fun a w=>by kernel_rfl,⟨fun a w=>by kernel_rfl,trivial⟩⟩) (.inl rfl) (fun w=>by kernel_rfl) rfl (by decide) rfl (struct_fact (fun w=>by kernel_rfl))
theorem tok68 : TOK Try.prog 68 ti68:=tok_flat (.agg #[.int .i64 0,.int .i64 0,.int .i64 0,.int .i64 0,.int .i64 0,.int .i64 0,.int .i64 0,.int .i64 0,.int .i64 0,.int .i64 0,.int .i64 0,.int .i64 0,.int .i64 0,.int .i64 0,.int .i64 0,.int .i64 0,.int .i64 0,.int .i64 0,.int .i64 0,.int .i64 0,.string ⟨#[]⟩,.string ⟨#[]⟩,.string ⟨#[]⟩,.int .i64 0,.int .i64 0,.int .i64 0,.int .i64 0,.int .i64 0]) (by kernel_rfl) (fun w=>by kernel_rfl) (fun w=>by kernel_rfl) (⟨fun a w=>by kernel_rfl,⟨fun a w=>by kernel_rfl,trivial⟩⟩) (.inl rfl) (fun w=>by kernel_rfl) rfl (by decide) rfl (struct_fact (fun w=>by kernel_rfl))
theorem tok69 : TOK Try.prog 69 ti69:=tok_flat (.slice none 0 0) (by kernel_rfl) (fun w=>by kernel_rfl) (fun w=>by kernel_rfl) (trivial) (.inr rfl) (fun w=>by kernel_rfl) rfl (by decide) rfl (sli_fact (z:=.agg #[.int .i64 0,.int .i64 0,.int .i64 0,.int .i64 0,.int .i64 0,.int .i64 0,.int .i64 0,.int .i64 0,.int .i64 0,.int .i64 0,.int .i64 0,.int .i64 0,.int .i64 0,.int .i64 0,.int .i64 0,.int .i64 0,.int .i64 0,.int .i64 0,.int .i64 0,.int .i64 0,.int .i64 0,.int .i64 0,.string ⟨#[]⟩,.string ⟨#[]⟩,.string ⟨#[]⟩,.int .i64 0,.int .i64 0,.int .i64 0,.int .i64 0,.int .i64 0]) (by kernel_rfl) (by decide) (by decide) (by kernel_rfl) rfl)
theorem tok71 : TOK Try.prog 71 ti71:=tok_flat (.agg #[.int .i64 0,.int .i64 0,.int .i64 0,.int .i64 0,.int .i64 0,.int .i64 0,.int .i64 0,.int .i64 0,.int .i64 0,.int .i64 0,.int .i64 0,.int .i64 0,.int .i64 0,.int .i64 0,.int .i64 0,.int .i64 0,.int .i64 0,.int .i64 0,.int .i64 0,.int .i64 0,.int .i64 0,.int .i64 0,.string ⟨#[]⟩,.string ⟨#[]⟩,.string ⟨#[]⟩,.int .i64 0,.int .i64 0,.int .i64 0,.int .i64 0,.int .i64 0]) (by kernel_rfl) (fun w=>by kernel_rfl) (fun w=>by kernel_rfl) (⟨fun a w=>by kernel_rfl,⟨fun a w=>by kernel_rfl,trivial⟩⟩) (.inl rfl) (fun w=>by kernel_rfl) rfl (by decide) rfl (struct_fact (fun w=>by kernel_rfl))
theorem tok72 : TOK Try.prog 72 ti72:=tok_flat (.agg #[.int .i64 0,.int .i64 0,.int .i64 0,.int .i64 0,.int .i64 0,.int .i64 0,.int .i64 0,.int .i64 0,.int .i64 0,.int .i64 0,.int .i64 0,.int .i64 0,.int .i64 0,.int .i64 0,.int .i64 0,.int .i64 0,.int .i64 0,.int .i64 0,.int .i64 0,.int .i64 0,.int .i64 0,.int .i64 0,.string ⟨#[]⟩,.string ⟨#[]⟩,.string ⟨#[]⟩,.int .i64 0,.int .i64 0,.int .i64 0,.int .i64 0,.int .i64 0]) (by kernel_rfl) (fun w=>by kernel_rfl) (fun w=>by kernel_rfl) (⟨fun a w=>by kernel_rfl,⟨fun a w=>by kernel_rfl,trivial⟩⟩) (.inl rfl) (fun w=>by kernel_rfl) rfl (by decide) rfl (struct_fact (fun w=>by kernel_rfl))
theorem tok74 : TOK Try.prog 74 ti74:=tok_flat (.pointer none) (by kernel_rfl) (fun w=>by kernel_rfl) (fun w=>by kernel_rfl) (trivial) (.inr rfl) (fun w=>by kernel_rfl) rfl (by decide) rfl (trivial)
theorem tok76 : TOK Try.prog 76 ti76:=tok_flat (.agg #[.slice none 0 0]) (by kernel_rfl) (fun w=>by kernel_rfl) (fun w=>by kernel_rfl) (⟨fun a w=>by kernel_rfl,trivial⟩) (.inl rfl) (fun w=>by kernel_rfl) rfl (by decide) rfl (struct_fact (fun w=>by kernel_rfl))
theorem tok77 : TOK Try.prog 77 ti77:=tok_flat (.agg #[.slice none 0 0]) (by kernel_rfl) (fun w=>by kernel_rfl) (fun w=>by kernel_rfl) (⟨fun a w=>by kernel_rfl,trivial⟩) (.inl rfl) (fun w=>by kernel_rfl) rfl (by decide) rfl (struct_fact (fun w=>by kernel_rfl))
theorem tok78 : TOK Try.prog 78 ti78:=tok_flat (.agg #[.slice none 0 0]) (by kernel_rfl) (fun w=>by kernel_rfl) (fun w=>by kernel_rfl) (⟨fun a w=>by kernel_rfl,trivial⟩) (.inl rfl) (fun w=>by kernel_rfl) rfl (by decide) rfl (struct_fact (fun w=>by kernel_rfl))
theorem tok79 : TOK Try.prog 79 ti79:=tok_flat (.agg #[.slice none 0 0]) (by kernel_rfl) (fun w=>by kernel_rfl) (fun w=>by kernel_rfl) (⟨fun a w=>by kernel_rfl,trivial⟩) (.inl rfl) (fun w=>by kernel_rfl) rfl (by decide) rfl (struct_fact (fun w=>by kernel_rfl))
theorem tok80 : TOK Try.prog 80 ti80:=tok_flat (.agg #[.slice none 0 0,.slice none 0 0]) (by kernel_rfl) (fun w=>by kernel_rfl) (fun w=>by kernel_rfl) (⟨fun a w=>by kernel_rfl,⟨fun a w=>by kernel_rfl,trivial⟩⟩) (.inl rfl) (fun w=>by kernel_rfl) rfl (by decide) rfl (struct_fact (fun w=>by kernel_rfl))
theorem tok81 : TOK Try.prog 81 ti81:=tok_flat (.agg #[.slice none 0 0,.slice none 0 0]) (by kernel_rfl) (fun w=>by kernel_rfl) (fun w=>by kernel_rfl) (⟨fun a w=>by kernel_rfl,⟨fun a w=>by kernel_rfl,trivial⟩⟩) (.inl rfl) (fun w=>by kernel_rfl) rfl (by decide) rfl (struct_fact (fun w=>by kernel_rfl))
theorem tok89 : TOK Try.prog 89 ti89:=tok_flat (.agg #[.int .i64 0]) (by kernel_rfl) (fun w=>by kernel_rfl) (fun w=>by kernel_rfl) (⟨fun a w=>by kernel_rfl,trivial⟩) (.inl rfl) (fun w=>by kernel_rfl) rfl (by decide) rfl (struct_fact (fun w=>by kernel_rfl))
theorem tok90 : TOK Try.prog 90 ti90:=tok_flat (.agg #[.int .i64 0]) (by kernel_rfl) (fun w=>by kernel_rfl) (fun w=>by kernel_rfl) (⟨fun a w=>by kernel_rfl,trivial⟩) (.inl rfl) (fun w=>by kernel_rfl) rfl (by decide) rfl (struct_fact (fun w=>by kernel_rfl))
theorem tok93 : TOK Try.prog 93 ti93:=tok_flat (.agg #[.slice none 0 0,.int .i64 0]) (by kernel_rfl) (fun w=>by kernel_rfl) (fun w=>by kernel_rfl) (⟨fun a w=>by kernel_rfl,⟨fun a w=>by kernel_rfl,trivial⟩⟩) (.inl rfl) (fun w=>by kernel_rfl) rfl (by decide) rfl (struct_fact (fun w=>by kernel_rfl))
theorem tok94 : TOK Try.prog 94 ti94:=tok_flat (.agg #[.slice none 0 0,.int .i64 0]) (by kernel_rfl) (fun w=>by kernel_rfl) (fun w=>by kernel_rfl) (⟨fun a w=>by kernel_rfl,⟨fun a w=>by kernel_rfl,trivial⟩⟩) (.inl rfl) (fun w=>by kernel_rfl) rfl (by decide) rfl (struct_fact (fun w=>by kernel_rfl))
theorem tok117 : TOK Try.prog 117 ti117:=tok_flat (.slice none 0 0) (by kernel_rfl) (fun w=>by kernel_rfl) (fun w=>by kernel_rfl) (trivial) (.inr rfl) (fun w=>by kernel_rfl) rfl (by decide) rfl (sli_fact (z:=.agg #[.int .i64 0,.int .i64 0,.int .i64 0,.int .i64 0,.int .i64 0,.int .i64 0,.int .i64 0,.int .i64 0,.int .i64 0,.int .i64 0,.int .i64 0,.int .i64 0,.int .i64 0,.int .i64 0,.int .i64 0,.int .i64 0,.int .i64 0,.int .i64 0,.int .i64 0,.int .i64 0,.string ⟨#[]⟩,.string ⟨#[]⟩,.string ⟨#[]⟩,.int .i64 0,.int .i64 0,.int .i64 0,.int .i64 0,.int .i64 0]) (by kernel_rfl) (by decide) (by decide) (by kernel_rfl) rfl)
theorem tok125 : TOK Try.prog 125 ti125:=tok_flat (.int .u64 0) (by kernel_rfl) (fun w=>by kernel_rfl) (fun w=>by kernel_rfl) (trivial) (.inr rfl) (fun w=>by kernel_rfl) rfl (by decide) rfl (show Try.prog.underlying 125 = some (.int .u64) from by kernel_rfl)
theorem tok126 : TOK Try.prog 126 ti126:=tok_flat (.agg #[.bool false,.bool false,.bool false,.bool false]) (by kernel_rfl) (fun w=>by kernel_rfl) (fun w=>by kernel_rfl) (⟨fun a w=>by kernel_rfl,⟨fun a w=>by kernel_rfl,⟨fun a w=>by kernel_rfl,⟨fun a w=>by kernel_rfl,trivial⟩⟩⟩⟩) (.inl rfl) (fun w=>by kernel_rfl) rfl (by decide) rfl (struct_fact (fun w=>by kernel_rfl))
theorem tok127 : TOK Try.prog 127 ti127:=tok_flat (.agg #[.bool false,.bool false,.bool false,.bool false]) (by kernel_rfl) (fun w=>by kernel_rfl) (fun w=>by kernel_rfl) (⟨fun a w=>by kernel_rfl,⟨fun a w=>by kernel_rfl,⟨fun a w=>by kernel_rfl,⟨fun a w=>by kernel_rfl,trivial⟩⟩⟩⟩) (.inl rfl) (fun w=>by kernel_rfl) rfl (by decide) rfl (struct_fact (fun w=>by kernel_rfl))
theorem tok158 : TOK Try.prog 158 ti158:=tok_flat (.agg #[.slice none 0 0,.int .i64 0,.int .i64 0]) (by kernel_rfl) (fun w=>by kernel_rfl) (fun w=>by kernel_rfl) (⟨fun a w=>by kernel_rfl,⟨fun a w=>by kernel_rfl,⟨fun a w=>by kernel_rfl,trivial⟩⟩⟩) (.inl rfl) (fun w=>by kernel_rfl) rfl (by decide) rfl (struct_fact (fun w=>by kernel_rfl))
theorem tok159 : TOK Try.prog 159 ti159:=tok_flat (.agg #[.slice none 0 0,.int .i64 0,.int .i64 0]) (by kernel_rfl) (fun w=>by kernel_rfl) (fun w=>by kernel_rfl) (⟨fun a w=>by kernel_rfl,⟨fun a w=>by kernel_rfl,⟨fun a w=>by kernel_rfl,trivial⟩⟩⟩) (.inl rfl) (fun w=>by kernel_rfl) rfl (by decide) rfl (struct_fact (fun w=>by kernel_rfl))
theorem tok177 : TOK Try.prog 177 ti177:=tok_flat (.int .u32 0) (by kernel_rfl) (fun w=>by kernel_rfl) (fun w=>by kernel_rfl) (trivial) (.inr rfl) (fun w=>by kernel_rfl) rfl (by decide) rfl (show Try.prog.underlying 177 = some (.int .u32) from by kernel_rfl)
theorem tok184 : TOK Try.prog 184 ti184:=tok_flat (.agg #[.int .u64 0,.int .u64 0,.int .u32 0,.int .u8 0,.int .u8 0,.int .u8 0,.int .u8 0,.nilFunc,.pointer none,.int .i32 0,.int .i32 0]) (by kernel_rfl) (fun w=>by kernel_rfl) (fun w=>by kernel_rfl) (⟨fun a w=>by kernel_rfl,⟨fun a w=>by kernel_rfl,⟨fun a w=>by kernel_rfl,⟨fun a w=>by kernel_rfl,⟨fun a w=>by kernel_rfl,⟨fun a w=>by kernel_rfl,⟨fun a w=>by kernel_rfl,⟨fun a w=>by kernel_rfl,⟨fun a w=>by kernel_rfl,⟨fun a w=>by kernel_rfl,⟨fun a w=>by kernel_rfl,trivial⟩⟩⟩⟩⟩⟩⟩⟩⟩⟩⟩) (.inl rfl) (fun w=>by kernel_rfl) rfl (by decide) rfl (struct_fact (fun w=>by kernel_rfl))
theorem gam_ok : TOKs Try.prog:=fun _ _ h=>gam_step tok2 (fun h=>gam_step tok3 (fun h=>gam_step tok4 (fun h=>gam_step tok5 (fun h=>gam_step tok9 (fun h=>gam_step tok12 (fun h=>gam_step tok21 (fun h=>gam_step tok56 (fun h=>gam_step tok125 (fun h=>gam_step tok177 (fun h=>gam_step tok22 (fun h=>gam_step tok28 (fun h=>gam_step tok29 (fun h=>gam_step tok32 (fun h=>gam_step tok33 (fun h=>gam_step tok34 (fun h=>gam_step tok35 (fun h=>gam_step tok36 (fun h=>gam_step tok37 (fun h=>gam_step tok38 (fun h=>gam_step tok50 (fun h=>gam_step tok51 (fun h=>gam_step tok52 (fun h=>gam_step tok53 (fun h=>gam_step tok54 (fun h=>gam_step tok62 (fun h=>gam_step tok64 (fun h=>gam_step tok65 (fun h=>gam_step tok67 (fun h=>gam_step tok68 (fun h=>gam_step tok69 (fun h=>gam_step tok71 (fun h=>gam_step tok72 (fun h=>gam_step tok74 (fun h=>gam_step tok76 (fun h=>gam_step tok77 (fun h=>gam_step tok78 (fun h=>gam_step tok79 (fun h=>gam_step tok80 (fun h=>gam_step tok81 (fun h=>gam_step tok89 (fun h=>gam_step tok90 (fun h=>gam_step tok93 (fun h=>gam_step tok94 (fun h=>gam_step tok117 (fun h=>gam_step tok126 (fun h=>gam_step tok127 (fun h=>gam_step tok158 (fun h=>gam_step tok159 (fun h=>gam_step tok184 (fun h=>by simp at h) h) h) h) h) h) h) h) h) h) h) h) h) h) h) h) h) h) h) h) h) h) h) h) h) h) h) h) h) h) h) h) h) h) h) h) h) h) h) h) h) h) h) h) h) h) h) h) h) h) h
theorem mixed : Try.prog.follows .mixedOrders = true:=Try.checked.mixed
end Go.Proofs.Ytdnaadcbimbfmaa
namespace Go.Proofs.Ytdnaadcbimbfmaa
open Go Go.RowKit Am
abbrev aI (n : Int) : AV:=.v (.int .i64 n)
abbrev aS (s : ByteArray) : AV:=.v (.string s)
abbrev aB (b : Bool) : AV:=.v (.bool b)
abbrev aU (n : Int) : AV:=.v (.int .u8 n)
theorem wrap_in {n : Int} (h0 : -9223372036854775808 ≤ n) (h1 : n ≤ 9223372036854775807) : IntKind.i64.wrap n = n:=IntWalk.i64_in n ⟨h0,h1⟩
theorem br {c : Bool} {p q : Prop} (h1 : c = true→p) (h2 : c = false→q) : (c = true→p)∧(c = false→q):=⟨h1,h2⟩
theorem brf {c : Bool} {p q : Prop} (h1 : c = false→p) (h2 : c = true→q) : (c = false→p)∧(c = true→q):=⟨h1,h2⟩
theorem bT {c : Bool} {p q : Prop} (h : c = true) (k : p) : (c = true→p)∧(c = false→q):=⟨fun _=>k,fun e=>by rw [h] at e; cases e⟩
theorem bF {c : Bool} {p q : Prop} (h : c = false) (k : q) : (c = true→p)∧(c = false→q):=⟨fun e=>(by rw [h] at e; cases e),fun _=>k⟩
theorem cT {c : Bool} {p q : Prop} (h : c = true) (k : q) : (c = false→p)∧(c = true→q):=⟨fun e=>(by rw [h] at e; cases e),fun _=>k⟩
theorem cF {c : Bool} {p q : Prop} (h : c = false) (k : p) : (c = false→p)∧(c = true→q):=⟨fun _=>k,fun e=>by rw [h] at e; cases e⟩
theorem nfB {c : Bool} {p : Prop} (h : c = true ↔ p) (h2 : c = false) : ¬ p:=fun hp=>by have:=h.2 hp; rw [h2] at this; simp at this
theorem lenF {F : Sy} (hF : F = sy) (rows : List (List AV)) : F .len rows = (rows.length : Int):=by rw [hF]; rfl
theorem slenF {F : Sy} (hF : F = sy) (s : ByteArray) : F .slen s = (s.size : Int):=by rw [hF]; rfl
theorem incF {F : Sy} (hF : F = sy) {i : Nat} {i' : Int} (hi : i' = (i : Int)) (h : i ≤ 4000000000) : F .ar .add .i64 i' 1 = ((i + 1 : Nat) : Int):=by rw [hF,hi]; exact (wrap_in (by omega) (by omega)).trans (by omega)
theorem addF {F : Sy} (hF : F = sy) {i j : Nat} {i' j' : Int} (hi : i' = (i : Int)) (hj : j' = (j : Int)) (h : i + j ≤ 4000000000) : F .ar .add .i64 i' j' = ((i + j : Nat) : Int):=by rw [hF,hi,hj]; exact (wrap_in (by omega) (by omega)).trans (by omega)
theorem ltF {F : Sy} (hF : F = sy) (i j : Nat) (i' j' : Int) (hi : i' = (i : Int)) (hj : j' = (j : Int)) : F .cmp .lss i' j' = true ↔ i < j:=by rw [hF,hi,hj]; simp [sy]
theorem bnotF {F : Sy} (hF : F = sy) (b : Bool) : F .bnot b = !b:=by rw [hF]; rfl
theorem eqF {F : Sy} (hF : F = sy) (i j : Int) : F .cmp .eql i j = decide (i = j):=by rw [hF]; simp [sy,Bool.beq_eq_decide_eq]
theorem neF {F : Sy} (hF : F = sy) (i j : Int) : F .cmp .neq i j = decide (i ≠ j):=by rw [hF]; simp [sy,bne,Bool.beq_eq_decide_eq]
theorem lsF {F : Sy} (hF : F = sy) (i j : Int) : F .cmp .lss i j = decide (i < j):=by rw [hF]; rfl
theorem gtF {F : Sy} (hF : F = sy) (i j : Int) : F .cmp .gtr i j = decide (i > j):=by rw [hF]; rfl
theorem geF {F : Sy} (hF : F = sy) (i j : Int) : F .cmp .geq i j = decide (i ≥ j):=by rw [hF]; rfl
abbrev L (s : ByteArray) : List UInt8:=s.data.toList
def BA (l : List UInt8) : ByteArray:=⟨l.toArray⟩
theorem L_BA (l : List UInt8) : L (BA l) = l:=rfl
theorem BA_L (s : ByteArray) : BA (L s) = s:=by cases s; rfl
theorem L_inj {a b : ByteArray} (h : L a = L b) : a = b:=by rw [← BA_L a,← BA_L b,h]
theorem L_size (s : ByteArray) : s.size = (L s).length:=by cases s; rfl
def byR (l : List UInt8) : List (List AV):=l.map fun b=>[aU b.toNat]
theorem byR_len (l : List UInt8) : (byR l).length = l.length:=by simp [byR]
theorem byR_get {l : List UInt8} {i : Nat} {b : UInt8} (h : l[i]? = some b) : (byR l)[i]? = some [aU b.toNat]:=by simp [byR,h]
theorem byR_one (l : List UInt8) : ∀ r ∈ byR l,r.length = 1:=fun r h=>by
 obtain ⟨b,_,rfl⟩:=List.mem_map.1 h; rfl
theorem sbF {F : Sy} (hF : F = sy) (s : ByteArray) : F .sb s = byR (L s):=by rw [hF]; rfl
def sR (l : List (List UInt8)) : List (List AV):=l.map fun s=>[aS (BA s)]
theorem btF {F : Sy} (hF : F = sy) {s : ByteArray} {i : Nat} {b : UInt8} (h : (L s)[i]? = some b) : F .bt s (i : Int) = (b.toNat : Int):=by
 rw [hF]
 obtain ⟨h1,h2⟩:=List.getElem?_eq_some_iff.1 h
 have hlt : i < s.size:=by rw [L_size]; exact h1
 simp only [sy,Int.toNat_natCast,hlt,dite_true]
 congr 2
theorem seqF {F : Sy} (hF : F = sy) (a b : ByteArray) : F .scmp .eql a b = decide (a = b):=by
 rw [hF]
 show (a.toList == b.toList) = _
 rw [Bool.beq_eq_decide_eq]
 congr 1
 rw [ByteArray.toList_eq,ByteArray.toList_eq]
 exact propext ⟨fun h=>L_inj h,fun h=>by rw [h]⟩
theorem reps_one {w : World} {S : Nat→Prop} {x : AV} {xs : List Value} (h : Reps w S [x] xs) : ∃ y,xs = [y]∧Rep w S x y:=by
 obtain ⟨y,ys,rfl,h1,h2⟩:=h.uncons
 rw [h2.unnil]
 exact ⟨y,rfl,h1⟩
theorem rep_v {w : World} {S : Nat→Prop} {x y : Value} (h : Rep w S (.v x) y) : y = x:=by
 cases h with
 | c h=>cases h; rfl
theorem gr_below {w w' : World} {S : Nat→Prop} (hS : ∀ g,S g→g < w.heap.size) (h : Below w.heap.size w w') : Gr w S w' S:=⟨h,fun _ h=>h,fun _ h=>.inl h,fun g hg=>Nat.lt_of_lt_of_le (hS g hg) h.size⟩
theorem enterT {f : Nat} {fn : Func} {c : Code} (hf : Try.prog.funcs[f]? = some fn) (hname : (fn.name == "runtime.NumGoroutine") = false) (hb : fn.body = some c) : ∀ cs w, (callFunc f cs).run Try.prog w = .ok (.enter f cs) w := fun cs w => by
 have h1 : fn.name ≠ "runtime.NumGoroutine" := by simpa using hname
 simp [callFunc,hf,h1,hb]
end Go.Proofs.Ytdnaadcbimbfmaa
namespace Go.Proofs.Ytdnaadcbimbfmaa
open Go Go.RowKit Am
structure Dt where
 R : Int
 N : Int
 deriving DecidableEq
abbrev VV:=Fin 16→Int
structure Opn where
 kind : Int
 key : ByteArray
 fld : ByteArray
 val : ByteArray
 num : Int
 ref : Dt
structure Ev where
 dot : Dt
 time : Int
 deps : VV
 op : Opn
def Dt.ac (d : Dt) : List AV:=[aI d.R,aI d.N]
def vac (v : VV) : List AV:=[aI (v 0),aI (v 1),aI (v 2),aI (v 3),aI (v 4),aI (v 5),aI (v 6),aI (v 7),aI (v 8),aI (v 9),aI (v 10),aI (v 11),aI (v 12),aI (v 13),aI (v 14),aI (v 15)]
def Opn.ac (o : Opn) : List AV:=[aI o.kind,aS o.key,aS o.fld,aS o.val,aI o.num,aI o.ref.R,aI o.ref.N]
def Ev.ac (e : Ev) : List AV:=[aI e.dot.R,aI e.dot.N,aI e.time,aI (e.deps 0),aI (e.deps 1),aI (e.deps 2),aI (e.deps 3),aI (e.deps 4),aI (e.deps 5),aI (e.deps 6),aI (e.deps 7),aI (e.deps 8),aI (e.deps 9),aI (e.deps 10),aI (e.deps 11),aI (e.deps 12),aI (e.deps 13),aI (e.deps 14),aI (e.deps 15),
 aI e.op.kind,aS e.op.key,aS e.op.fld,aS e.op.val,aI e.op.num,aI e.op.ref.R,aI e.op.ref.N]
theorem isNaN_ok (x : Int) (r : Bool) (hr : r = false) : CSem Try.prog (.fn 94) [aI x] (.pure [aB r]):=by
 refine of_text gam_ok mixed { n:=6 } Try.func94 (by kernel_rfl) rfl rfl (by simp) (by decide) fun F C D hF hC hD=>?_
 cbv
 subst hF; simp [sy,hr]
def compareI (x y : Int) : Int:=if x < y then -1 else if y < x then 1 else 0
theorem compare_ok (x y : Int) (r : Int) (hr : r = compareI x y) : CSem Try.prog (.fn 73) [aI x,aI y] (.pure [aI r]):=by
 refine of_text gam_ok mixed { n:=20 } Try.func73 (by kernel_rfl) rfl rfl (by simp) (by decide) fun F C D hF hC hD=>?_
 have c1 : F .cmp .lss x y = true→r = -1:=fun h=>by rw [hF] at h; simp [sy] at h; simp [hr,compareI,h]
 have c2 : F .cmp .lss x y = false→F .cmp .gtr x y = true→r = 1:=fun h g=>by rw [hF] at h g; simp [sy] at h g; rw [hr,compareI,if_neg (by omega),if_pos g]
 have c3 : F .cmp .lss x y = false→F .cmp .gtr x y = false→r = 0:=fun h g=>by rw [hF] at h g; simp [sy] at h g; rw [hr,compareI,if_neg (by omega),if_neg (by omega)]
 cbv
 refine ⟨_,hC _ _ _ (isNaN_ok x _ rfl),?_⟩
 cbv
 refine ⟨_,hC _ _ _ (isNaN_ok y _ rfl),?_⟩
 cbv
 refine ⟨fun h=>?_,fun h=>?_⟩
 ·cases h
 cbv
 refine ⟨fun h=>?_,fun h=>?_⟩
 ·cases h
 cbv
 refine ⟨fun h=>?_,fun h=>?_⟩ <;> cbv
 ·rw [c1 h]; exact ⟨rfl,trivial⟩
 refine ⟨fun g=>?_,fun g=>?_⟩ <;> cbv
 ·rw [c2 h g]; exact ⟨rfl,trivial⟩
 ·rw [c3 h g]; exact ⟨rfl,trivial⟩
def orF : List Int→Int
 | []=>0
 | x :: r=>if x = 0 then orF r else x
theorem orF_zero : ∀ (l : List Int),(∀ x ∈ l,x = 0)→orF l = 0:=by
 intro l
 induction l with
 | nil=>intro _; rfl
 | cons x l ih=>intro h; simp [orF,h x List.mem_cons_self,ih (fun y hy=>h y (List.mem_cons_of_mem _ hy))]
theorem orF_at : ∀ (l : List Int) (i : Nat) (v : Int),(∀ k,k < i→l[k]? = some 0)→l[i]? = some v→v ≠ 0→orF l = v:=by
 intro l
 induction l with
 | nil=>intro i v _ h; simp at h
 | cons x l ih =>
  intro i v h1 h2 h3
  cases i with
  | zero=>simp at h2; subst h2; simp [orF,h3]
  | succ i =>
   have:=h1 0 (by omega)
   simp at this
   simp only [orF,this,if_true]
   exact ih i v (fun k hk=>by have:=h1 (k + 1) (by omega); simpa using this) (by simpa using h2) h3
theorem or_ok (vals : List Int) (rows : List (List AV)) (hrows : rows = vals.map fun v=>[aI v]) (hl : vals.length ≤ 1000000) (r : Int) (hr : r = orF vals) : CSem Try.prog (.fn 72) [.sl rows] (.pure [aI r]):=by
 refine of_text gam_ok mixed { n:=18 } Try.func72 (by kernel_rfl) rfl rfl (by simp) (by decide) fun F C D hF hC hD=>?_
 have hlen : F .len rows = (vals.length : Int):=by rw [hF,hrows]; simp [sy]
 obtain ⟨n',hn'⟩ : ∃ n',F .len rows = n':=⟨_,rfl⟩
 rw [hn'] at hlen
 cbv
 rw [hn']
 refine ⟨Nat × Int,fun x=>{ slots:=[(8,aI x.2),(7,aI n'),(6,.sl rows),(3,aI 0),(2,aI 0)],obs:=[],ctr:=0 },fun x=>x.2 = (x.1 : Int)∧x.1 ≤ vals.length∧∀ k,k < x.1→vals[k]? = some 0,fun x=>vals.length - x.1,⟨(0,0),⟨rfl,Nat.zero_le _,fun k hk=>by omega⟩,le_of [] (by simp [leSl,leOb,injK,memK,parK,noTup,lk,rn0,rnA,plain,aI])⟩,fun x hx=>?_⟩
 obtain ⟨i,i'⟩:=x
 obtain ⟨ei,hi,hz⟩:=hx
 simp only at ei hi hz
 have hlen : n' = (vals.length : Int):=hlen
 have hlt : F .cmp .lss i' n' = true→i < vals.length:=fun h=>by rw [hF] at h; simp [sy] at h; omega
 have hge : F .cmp .lss i' n' = false→r = 0:=fun h=>by
  rw [hF] at h; simp [sy] at h
  have : i = vals.length:=by omega
  rw [hr]
  exact orF_zero _ (fun x hx=>by
   obtain ⟨k,hk,rfl⟩:=List.getElem_of_mem hx
   have:=hz k (by omega)
   rw [List.getElem?_eq_getElem hk] at this
   simpa using this)
 have ep : i < vals.length→F .ar .add .i64 i' 1 = ((i + 1 : Nat) : Int):=fun h=>by rw [hF]; exact (wrap_in (by omega) (by omega)).trans (by omega)
 cbv
 refine ⟨fun h=>?_,fun h=>?_⟩ <;> cbv
 ·have hil:=hlt h
  obtain ⟨v,hv⟩ : ∃ v,vals[i]? = some v:=⟨_,List.getElem?_eq_getElem hil⟩
  refine ⟨i,[aI v],ei,by rw [hrows]; simp [hv],rfl,?_⟩
  have c1 : F .cmp .neq v 0 = true→r = v:=fun g=>by
   rw [hF] at g; simp [sy] at g
   rw [hr]; exact orF_at _ i v hz hv g
  have c2 : F .cmp .neq v 0 = false→v = 0:=fun g=>by rw [hF] at g; simpa [sy] using g
  cbv
  refine ⟨fun g=>?_,fun g=>?_⟩ <;> cbv
  ·rw [c1 g]; exact ⟨rfl,trivial⟩
  ·obtain ⟨j,hj⟩ : ∃ j,F .ar .add .i64 i' 1 = j:=⟨_,rfl⟩
   rw [hj]
   refine ⟨(i + 1,j),⟨hj.symm.trans (ep hil),hil,fun k hk=>?_⟩,(by simp; omega),le_of [] (by simp [leSl,leOb,injK,memK,parK,noTup,lk,rn0,rnA,plain])⟩
   by_cases e : k < i
   ·exact hz k e
   ·have : k = i:=by omega
    rw [this,hv,c2 g]
 ·rw [hge h]; exact ⟨rfl,trivial⟩
def laterB (b a : Ev) : Bool:=decide (0 < orF [compareI b.time a.time,compareI b.dot.R a.dot.R,compareI b.dot.N a.dot.N])
theorem later_ok (b a : Ev) (r : Bool) (hr : r = laterB b a) : CSem Try.prog (.fn 89) [.agg b.ac,.agg a.ac] (.pure [aB r]):=by
 refine of_text gam_ok mixed { n:=27 } Try.func89 (by kernel_rfl) rfl rfl (by simp) (by decide) fun F C D hF hC hD=>?_
 cbv
 refine ⟨hC _ _ _ (ben_ok (by kernel_rfl)),?_⟩
 cbv
 refine ⟨_,hC _ _ _ (compare_ok _ _ _ rfl),?_⟩
 generalize h1 : compareI b.time a.time = c1
 cbv
 refine ⟨_,hC _ _ _ (compare_ok _ _ _ rfl),?_⟩
 generalize h2 : compareI b.dot.R a.dot.R = c2
 cbv
 refine ⟨_,hC _ _ _ (compare_ok _ _ _ rfl),?_⟩
 generalize h3 : compareI b.dot.N a.dot.N = c3
 cbv
 refine ⟨_,hC _ _ _ (or_ok [c1,c2,c3] _ rfl (by simp) _ rfl),?_⟩
 generalize h4 : orF [c1,c2,c3] = c4
 cbv
 subst hF
 simp [sy,hr,laterB,h1,h2,h3,h4]
theorem later_iff (b a : Ev) : laterB b a = true ↔ (a.time < b.time ∨ (a.time = b.time∧(a.dot.R < b.dot.R ∨ (a.dot.R = b.dot.R∧a.dot.N < b.dot.N)))):=by
 have c : ∀ x y : Int,(compareI x y = 0 ↔ x = y)∧(0 < compareI x y ↔ y < x):=fun x y=>by
  unfold compareI
  split
  ·constructor <;> constructor <;> intro <;> omega
  ·split
   ·constructor <;> constructor <;> intro <;> omega
   ·constructor <;> constructor <;> intro <;> omega
 obtain ⟨t1,t2⟩:=c b.time a.time
 obtain ⟨r1,r2⟩:=c b.dot.R a.dot.R
 obtain ⟨n1,n2⟩:=c b.dot.N a.dot.N
 unfold laterB
 rw [decide_eq_true_eq]
 simp only [orF]
 by_cases h1 : compareI b.time a.time = 0
 ·rw [if_pos h1]
  by_cases h2 : compareI b.dot.R a.dot.R = 0
  ·rw [if_pos h2]
   by_cases h3 : compareI b.dot.N a.dot.N = 0
   ·rw [if_pos h3]; omega
   ·rw [if_neg h3]; omega
  ·rw [if_neg h2]; omega
 ·rw [if_neg h1]; omega
end Go.Proofs.Ytdnaadcbimbfmaa
namespace Go.Proofs.Ytdnaadcbimbfmaa
open Go Go.RowKit Am
def replica (n : Int) : Bool:=decide (0 ≤ n) && decide (n < 16)
theorem replica_ok (n : Int) (r : Bool) (hr : r = replica n) : CSem Try.prog (.fn 80) [aI n] (.pure [aB r]):=by
 refine of_text gam_ok mixed { n:=9 } Try.func80 (by kernel_rfl) rfl rfl (by simp) (by decide) fun F C D hF hC hD=>?_
 cbv
 refine ⟨fun h=>?_,fun h=>?_⟩ <;> cbv <;> subst hF <;> grind [sy,replica]
def dotB (d : Dt) : Bool:=replica d.R && decide (1 ≤ d.N) && decide (d.N ≤ 1048576)
theorem dot_ok (d : Dt) (r : Bool) (hr : r = dotB d) : CSem Try.prog (.fn 58) [.agg d.ac] (.pure [aB r]):=by
 refine of_text gam_ok mixed { n:=16 } Try.func58 (by kernel_rfl) rfl rfl (by simp) (by decide) fun F C D hF hC hD=>?_
 cbv
 refine ⟨_,hC _ _ _ (replica_ok _ _ rfl),?_⟩
 generalize h1 : replica d.R = c1
 cbv
 refine ⟨fun h=>?_,fun h=>?_⟩ <;> cbv
 ·refine ⟨fun h=>?_,fun h=>?_⟩ <;> cbv <;> subst hF <;> grind [sy,dotB]
 ·subst hF; grind [sy,dotB]
theorem vac_cut (v : VV) (m : Nat) (h : m < 16) : cut (0 + m * 1) 1 (vac v) = some [aI (v ⟨m,h⟩)]:=by
 match m,h with
 | 0,_=>rfl | 1,_=>rfl | 2,_=>rfl | 3,_=>rfl | 4,_=>rfl | 5,_=>rfl | 6,_=>rfl | 7,_=>rfl
 | 8,_=>rfl | 9,_=>rfl | 10,_=>rfl | 11,_=>rfl | 12,_=>rfl | 13,_=>rfl | 14,_=>rfl | 15,_=>rfl
 | n+16,h=>exact absurd h (by omega)
def vget (v : VV) (i : Int) : Int:=if h : i.toNat < 16 then v ⟨i.toNat,h⟩ else 0
def hasB (v : VV) (d : Dt) : Bool:=dotB d && decide (d.N ≤ vget v d.R)
theorem has_ok (v : VV) (d : Dt) (r : Bool) (hr : r = hasB v d) : CSem Try.prog (.fn 51) [.agg (vac v),.agg d.ac] (.pure [aB r]):=by
 refine of_text gam_ok mixed { n:=16 } Try.func51 (by kernel_rfl) rfl rfl (by simp) (by decide) fun F C D hF hC hD=>?_
 cbv
 refine ⟨hC _ _ _ (ben_ok (by kernel_rfl)),?_⟩
 cbv
 refine ⟨_,hC _ _ _ (dot_ok d _ rfl),?_⟩
 generalize h1 : dotB d = c1
 cbv
 refine ⟨fun h=>?_,fun h=>?_⟩ <;> cbv
 ·have hd : 0 ≤ d.R∧d.R < 16:=by subst h; simp [dotB,replica] at h1; omega
  have hm : d.R.toNat < 16:=by omega
  refine ⟨d.R.toNat,_,(Int.toNat_of_nonneg hd.1).symm,hm,vac_cut v _ hm,?_⟩
  generalize h2 : v ⟨d.R.toNat,hm⟩ = x
  cbv
  subst hF
  simp [hr,hasB,h1,h,vget,hm,h2,sy]
 ·subst hF; simp [hr,hasB,h1,h]
def covers (b a : Ev) : Bool:=hasB b.deps a.dot
theorem covers_ok (b a : Ev) (r : Bool) (hr : r = covers b a) : CSem Try.prog (.fn 52) [.agg b.ac,.agg a.ac] (.pure [aB r]):=by
 refine of_text gam_ok mixed { n:=10 } Try.func52 (by kernel_rfl) rfl rfl (by simp) (by decide) fun F C D hF hC hD=>?_
 cbv
 refine ⟨_,hC _ _ _ (has_ok b.deps a.dot _ rfl),?_⟩
 generalize h1 : hasB b.deps a.dot = c1
 cbv
 simp [hr,covers,h1]
def addsB (k : Int) : Bool:=k == 1 || k == 2 || k == 3 || k == 5 || k == 7 || k == 9
theorem adds_ok (k : Int) (r : Bool) (hr : r = addsB k) : CSem Try.prog (.fn 31) [aI k] (.pure [aB r]):=by
 refine of_text gam_ok mixed { n:=11 } Try.func31 (by kernel_rfl) rfl rfl (by simp) (by decide) fun F C D hF hC hD=>?_
 cbv
 refine ⟨fun h=>?_,fun h=>?_⟩ <;> cbv
 ·subst hF; simp_all [sy,addsB]
 refine ⟨fun h=>?_,fun h=>?_⟩ <;> cbv
 ·subst hF; simp_all [sy,addsB]
 refine ⟨fun h=>?_,fun h=>?_⟩ <;> cbv
 ·subst hF; simp_all [sy,addsB]
 refine ⟨fun h=>?_,fun h=>?_⟩ <;> cbv
 ·subst hF; simp_all [sy,addsB]
 refine ⟨fun h=>?_,fun h=>?_⟩ <;> cbv
 ·subst hF; simp_all [sy,addsB]
 refine ⟨fun h=>?_,fun h=>?_⟩ <;> cbv
 ·subst hF; simp_all [sy,addsB]
 subst hF; simp_all [sy,addsB]
end Go.Proofs.Ytdnaadcbimbfmaa
namespace Go.Proofs.Ytdnaadcbimbfmaa
open Go Go.RowKit Am
theorem run_items (d : Nat) (e : TypeId) (k : IntKind) (he : Try.prog.underlying e = some (.int k)) (hp : Try.prog.plainKey e = true) (xs ys : Array Value) : ∀ (is : List Nat) (w : World),(∀ i ∈ is,∃ a b : Int,xs[i * 1]? = some (.int k a)∧ys[i * 1]? = some (.int k b)) →
  ∃ r : Bool,(Op.eqItems (d + 1) e 1 xs ys is).run Try.prog w = .ok r w∧(r = true ↔ ∀ i ∈ is,xs[i * 1]? = ys[i * 1]?)
 | [],w,_=>⟨true,by simp [Op.eqItems],by simp⟩
 | i :: is,w,h=>by
  obtain ⟨a,b,ha,hb⟩:=h i List.mem_cons_self
  obtain ⟨r,hr,hi⟩:=run_items d e k he hp xs ys is w (fun j hj=>h j (List.mem_cons_of_mem _ hj))
  have p1:=run_part_plain w hp ha
  have p2:=run_part_plain w hp hb
  simp only [Op.eqItems,Sem.run_bind,p1,p2,Result.andThen_ok,run_equalIn_int w d e k k a b he]
  by_cases hab : a = b
  ·subst hab
   refine ⟨r,by simpa using hr,?_⟩
   rw [hi]
   constructor
   ·intro hh j hj
    rcases List.mem_cons.1 hj with rfl | hj
    ·rw [ha,hb]
    ·exact hh j hj
   ·intro hh j hj; exact hh j (List.mem_cons_of_mem _ hj)
  ·refine ⟨false,by simp [hab],?_⟩
   constructor
   ·intro hh; simp at hh
   ·intro hh
    have:=hh i List.mem_cons_self
    rw [ha,hb] at this
    simp at this
    exact absurd this hab
inductive FOK (d : Nat) (xs ys : Array Value) : List Field→List Bool→Prop
 | nil : FOK d xs ys [] []
 | cons {f : Field} {fs : List Field} {bs : List Bool} {a b : Value} {q : Bool} (hn : f.name ≠ "_") (h1 : ∀ w, (part f.type xs f.offset).run Try.prog w = .ok a w) (h2 : ∀ w, (part f.type ys f.offset).run Try.prog w = .ok b w)
   (h3 : ∀ w,(Op.equalIn d f.type a b).run Try.prog w = .ok q w) (h : FOK d xs ys fs bs) : FOK d xs ys (f :: fs) (q :: bs)
theorem run_fields {d : Nat} {xs ys : Array Value} : ∀ {fs : List Field} {bs : List Bool},FOK d xs ys fs bs→∀ w,(Op.eqFields d xs ys fs).run Try.prog w = .ok (bs.all id) w:=by
 intro fs bs h
 induction h with
 | nil=>intro w; simp [Op.eqFields]
 | cons hn h1 h2 h3 h ih =>
  rename_i f fs bs a b q
  intro w
  simp only [Op.eqFields,hn,ne_eq,not_false_eq_true,if_true,Sem.run_bind,h1,h2,h3,Result.andThen_ok]
  cases q
  ·simp
  ·simp [ih]
theorem eq_struct {t : Nat} {fs : Array Field} {xs ys : Array Value} {bs : List Bool} (d : Nat) (hS : Try.prog.underlying t = some (.struct fs)) (hp : Try.prog.stoodInHeld t = false) (h : FOK d xs ys fs.toList bs) (w : World) :
  (Op.equalIn (d + 1) t (.agg xs) (.agg ys)).run Try.prog w = .ok (bs.all id) w:=by
 have hf : Try.prog.fieldsOf t = fs:=by simp [Program.fieldsOf,hS]
 rw [run_equalIn_struct w d t xs ys (by rw [hf]; exact hS) hp,hf]; exact run_fields h w
theorem bytes_beq (a b : ByteArray) : (a == b) = true ↔ a = b:=by
 rw [beq_toListBytes,beq_iff_eq,ByteArray.toList_eq,ByteArray.toList_eq]
 obtain ⟨⟨x⟩⟩:=a
 obtain ⟨⟨y⟩⟩:=b
 simp
theorem eq_int (d : Nat) (a b : Int) (w : World) : (Op.equalIn (d + 1) 3 (.int .i64 a) (.int .i64 b)).run Try.prog w = .ok (a == b) w:=run_equalIn_int w d 3 .i64 .i64 a b (by kernel_rfl)
abbrev vI (n : Int) : Value:=.int .i64 n
def Dt.vs (d : Dt) : Array Value:=#[vI d.R,vI d.N]
def vvs (v : VV) : Array Value:=#[vI (v 0),vI (v 1),vI (v 2),vI (v 3),vI (v 4),vI (v 5),vI (v 6),vI (v 7),vI (v 8),vI (v 9),vI (v 10),vI (v 11),vI (v 12),vI (v 13),vI (v 14),vI (v 15)]
def Opn.vs (o : Opn) : Array Value:=#[vI o.kind,.string o.key,.string o.fld,.string o.val,vI o.num,vI o.ref.R,vI o.ref.N]
def Ev.vs (e : Ev) : Array Value:=#[vI e.dot.R,vI e.dot.N,vI e.time,vI (e.deps 0),vI (e.deps 1),vI (e.deps 2),vI (e.deps 3),vI (e.deps 4),vI (e.deps 5),vI (e.deps 6),vI (e.deps 7),vI (e.deps 8),vI (e.deps 9),vI (e.deps 10),vI (e.deps 11),vI (e.deps 12),vI (e.deps 13),vI (e.deps 14),vI (e.deps 15),
 vI e.op.kind,.string e.op.key,.string e.op.fld,.string e.op.val,vI e.op.num,vI e.op.ref.R,vI e.op.ref.N]
theorem eq_dot (d : Nat) (a b : Dt) : ∃ q : Bool,(q = true ↔ a = b)∧∀ w,(Op.equalIn (d + 2) 33 (.agg a.vs) (.agg b.vs)).run Try.prog w = .ok q w:=by
 obtain ⟨aR,aN⟩:=a
 obtain ⟨bR,bN⟩:=b
 refine ⟨_,?_,fun w=>eq_struct (d + 1) Try.underlying33 (by kernel_rfl) (bs:=[aR == bR,aN == bN]) ?_ w⟩
 ·simp
 ·exact .cons (by decide) (a:=vI aR) (b:=vI bR) (fun w=>by kernel_rfl) (fun w=>by kernel_rfl) (fun w=>eq_int d aR bR w) (.cons (by decide) (a:=vI aN) (b:=vI bN) (fun w=>by kernel_rfl) (fun w=>by kernel_rfl) (fun w=>eq_int d aN bN w) .nil)
theorem vvs_get (v : VV) (i : Nat) (h : i < 16) : (vvs v)[i * 1]? = some (vI (v ⟨i,h⟩)):=by
 match i,h with
 | 0,_=>rfl | 1,_=>rfl | 2,_=>rfl | 3,_=>rfl | 4,_=>rfl | 5,_=>rfl | 6,_=>rfl | 7,_=>rfl
 | 8,_=>rfl | 9,_=>rfl | 10,_=>rfl | 11,_=>rfl | 12,_=>rfl | 13,_=>rfl | 14,_=>rfl | 15,_=>rfl
 | n+16,h=>exact absurd h (by omega)
theorem info3 : ∃ i,Try.prog.info? 3 = some i∧Try.prog.cellsOf 3 = 1:=by
 have h : (Try.prog.info? 3).isSome = true:=by kernel_rfl
 obtain ⟨i,hi⟩:=Option.isSome_iff_exists.1 h
 exact ⟨i,hi,by kernel_rfl⟩
theorem eq_vv (d : Nat) (a b : VV) : ∃ q : Bool,(q = true ↔ a = b)∧∀ w,(Op.equalIn (d + 2) 29 (.agg (vvs a)) (.agg (vvs b))).run Try.prog w = .ok q w:=by
 obtain ⟨i,hi,hc⟩:=info3
 have key : ∀ w,∃ r : Bool,(Op.equalIn (d + 2) 29 (.agg (vvs a)) (.agg (vvs b))).run Try.prog w = .ok r w∧(r = true ↔ a = b):=by
  intro w
  rw [run_equalIn_array w (d + 1) (t:=29) (e:=3) (n:=16) (vvs a) (vvs b) (by kernel_rfl) hi,hc]
  obtain ⟨r,h1,h2⟩:=run_items d 3 .i64 (by kernel_rfl) (by kernel_rfl) (vvs a) (vvs b) (List.range 16) w (fun j hj=>by
   have hj : j < 16:=by simpa using hj
   exact ⟨_,_,vvs_get a j hj,vvs_get b j hj⟩)
  refine ⟨r,h1,h2.trans ?_⟩
  constructor
  ·intro h
   funext j
   have:=h j.1 (by simp)
   rw [vvs_get a j.1 j.2,vvs_get b j.1 j.2] at this
   simpa using this
  ·intro h j hj; rw [h]
 obtain ⟨q,hq⟩ : ∃ q : Bool,(q = true ↔ a = b):=by
  by_cases h : a = b
  ·exact ⟨true,by simp [h]⟩
  ·exact ⟨false,by simp [h]⟩
 refine ⟨q,hq,fun w=>?_⟩
 obtain ⟨r,h1,h2⟩:=key w
 rw [h1,Bool.eq_iff_iff.2 (h2.trans hq.symm)]
theorem repl_v {w : World} {S : Nat→Prop} : ∀ (xs ys : List Value),RepL w S (xs.map AV.v) ys→ys = xs:=by
 intro xs
 induction xs with
 | nil=>intro ys h; exact h.unnil
 | cons x xs ih =>
  intro ys h
  obtain ⟨y,zs,rfl,h1,h2⟩:=RepL.uncons (c:=.v x) h
  cases h1
  rw [ih zs h2]
theorem rep_agg_v {w : World} {S : Nat→Prop} {xs : List Value} {y : Value} (h : Rep w S (.agg (xs.map AV.v)) y) : y = .agg xs.toArray:=by
 cases h with
 | c h=>cases h
 | agg h=>rw [repl_v xs _ h]
theorem csem_eq {t : Nat} {xs ys : List Value} {q : Bool} (hm : Try.prog.eqGuardType Try.prog.depth t = false) (h : ∀ w,(Op.equalIn 10000 t (.agg xs.toArray) (.agg ys.toArray)).run Try.prog w = .ok q w) : CSem Try.prog (.eq t) [.agg (xs.map AV.v),.agg (ys.map AV.v)] (.pure [aB q]):=by
 refine ⟨_,_,q,rfl,rfl,fun w S x y hx hy=>⟨0,fun ox oy=>?_,fun ox oy=>?_⟩⟩
 ·rw [rep_agg_v hx,rep_agg_v hy]
  simp [run_eqGuard_agg w .eql t ox oy _ _ hm,run_eql_struct,h,World.drewN]
 ·rw [rep_agg_v hx,rep_agg_v hy]
  simp [run_eqGuard_agg w .neq t ox oy _ _ hm,run_neq_struct,h,World.drewN]
theorem dtEq_ok (a b : Dt) : ∃ q : Bool,(q = true ↔ a = b)∧CSem Try.prog (.eq 33) [.agg a.ac,.agg b.ac] (.pure [aB q]):=by
 obtain ⟨q,h1,h2⟩:=eq_dot 9998 a b
 exact ⟨q,h1,csem_eq (t:=33) (xs:=a.vs.toList) (ys:=b.vs.toList) (by kernel_rfl) h2⟩
theorem vvEq_ok (a b : VV) : ∃ q : Bool,(q = true ↔ a = b)∧CSem Try.prog (.eq 29) [.agg (vac a),.agg (vac b)] (.pure [aB q]):=by
 obtain ⟨q,h1,h2⟩:=eq_vv 9998 a b
 exact ⟨q,h1,csem_eq (t:=29) (xs:=(vvs a).toList) (ys:=(vvs b).toList) (by kernel_rfl) h2⟩
end Go.Proofs.Ytdnaadcbimbfmaa
namespace Go.Proofs.Ytdnaadcbimbfmaa
open Go Go.RowKit Am
def wantK (x : Int) : Int:=if x = 3 ∨ x = 4 then 3 else if x = 5 ∨ x = 6 then 5 else if x = 7 ∨ x = 8 then 7 else 0
def endsK (x y : Int) (one rf : Bool) : Bool:=if x = 11 then addsB y else if x = 1 then y == 1 else if x = 10 then y == 9 && rf else y == wantK x && one
def endsB (b a : Ev) : Bool:=(b.op.key == a.op.key) && covers b a && endsK b.op.kind a.op.kind (b.op.fld == a.op.fld) (decide (b.op.ref.R = a.dot.R) && decide (b.op.ref.N = a.dot.N))
theorem ends_ok (b a : Ev) (r : Bool) (hr : r = endsB b a) : CSem Try.prog (.fn 28) [.agg b.ac,.agg a.ac] (.pure [aB r]):=by
 obtain ⟨q,hq1,hq2⟩:=dtEq_ok b.op.ref a.dot
 have hq1 : q = (decide (b.op.ref.R = a.dot.R) && decide (b.op.ref.N = a.dot.N)):=by
  rw [Bool.eq_iff_iff,hq1]
  obtain ⟨x,y⟩:=a.dot
  obtain ⟨z,u⟩:=b.op.ref
  simp
 have hr2 : r = ((b.op.key == a.op.key) && covers b a && endsK b.op.kind a.op.kind (b.op.fld == a.op.fld) q):=by rw [hr,hq1]; rfl
 clear hr hq1
 rw [beq_toListBytes,beq_toListBytes] at hr2
 refine of_text gam_ok mixed { n:=71 } Try.func28 (by kernel_rfl) rfl rfl (by simp) (by decide) fun F C D hF hC hD=>?_
 generalize hco : covers b a = co at hr2
 have hcov : C (.fn 52) [.agg b.ac,.agg a.ac] (.pure [aB co]):=hC _ _ _ (covers_ok b a _ hco.symm)
 generalize had : addsB a.op.kind = ad
 have hadd : C (.fn 31) [aI a.op.kind] (.pure [aB ad]):=hC _ _ _ (adds_ok _ _ had.symm)
 have heq:=hC _ _ _ hq2
 clear hco hq2
 cbv
 refine brf (fun h1=>?_) (fun h1=>?_) <;> cbv
 ·refine ⟨_,hcov,?_⟩
  cbv
  refine br (fun h2=>?_) (fun h2=>?_) <;> cbv
  ·subst hF; simp_all [sy]
  iterate 11 (all_goals (try (first | (with_reducible refine br (fun h=>?_) (fun h=>?_)) | (with_reducible refine brf (fun h=>?_) (fun h=>?_)) | (refine ⟨_,hadd,?_⟩) | (refine ⟨_,heq,?_⟩))); all_goals (try cbv))
  all_goals (clear hC hD hcov hadd heq hq1; subst hF; simp [sy] at *)
  all_goals (rw [hr2]; clear hr2)
  all_goals (simp_all [endsK,wantK])
 ·subst hF; simp_all [sy]
end Go.Proofs.Ytdnaadcbimbfmaa
namespace Go.Proofs.Ytdnaadcbimbfmaa
open Go Go.RowKit Am
def dlt (a b : Dt) : Prop:=a.R < b.R ∨ (a.R = b.R∧a.N < b.N)
instance (a b : Dt) : Decidable (dlt a b):=by unfold dlt; infer_instance
theorem dlt_irr (a : Dt) : ¬ dlt a a:=by unfold dlt; omega
theorem dlt_trans {a b c : Dt} (h : dlt a b) (h' : dlt b c) : dlt a c:=by unfold dlt at *; omega
theorem dlt_asymm {a b : Dt} (h : dlt a b) : ¬ dlt b a:=by unfold dlt at *; omega
theorem dlt_tri {a b : Dt} (h : ¬ dlt a b) (h' : ¬ dlt b a) : a = b:=by
 cases a; cases b
 unfold dlt at *
 simp only at h h'
 congr <;> omega
variable {α : Type}
def Rise (d : α→Dt) (l : List α) : Prop:=l.Pairwise fun a b=>dlt (d a) (d b)
def cntD (d : α→Dt) (l : List α) (x : Dt) : Nat:=(l.takeWhile fun a=>decide (dlt (d a) x)).length
def insD (d : α→Dt) (l : List α) (e : α) : List α:=l.take (cntD d l (d e)) ++ e :: l.drop (cntD d l (d e))
theorem cntD_le (d : α→Dt) (l : List α) (x : Dt) : cntD d l x ≤ l.length:=by
 unfold cntD
 exact (List.takeWhile_prefix _).length_le
theorem cntD_lt {d : α→Dt} {x : Dt} : ∀ {l : List α},Rise d l→∀ {i : Nat} {a : α},l[i]? = some a→(i < cntD d l x ↔ dlt (d a) x)
 | [],_,i,a,h=>by simp at h
 | b :: l,hr,i,a,h=>by
  obtain ⟨h1,h2⟩:=List.pairwise_cons.1 hr
  unfold cntD
  by_cases hb : dlt (d b) x
  ·rw [List.takeWhile_cons_of_pos (by simpa using hb),List.length_cons]
   cases i with
   | zero =>
    have : b = a:=by simpa using h
    subst this
    simp [hb]
   | succ i =>
    have:=cntD_lt (x:=x) h2 (i:=i) (a:=a) (by simpa using h)
    unfold cntD at this
    rw [← this]
    omega
  ·rw [List.takeWhile_cons_of_neg (by simpa using hb),List.length_nil]
   refine ⟨fun h=>by omega,fun ha=>?_⟩
   cases i with
   | zero =>
    have : b = a:=by simpa using h
    subst this
    exact absurd ha hb
   | succ i =>
    have : a ∈ l:=List.mem_of_getElem? (by simpa using h)
    exact absurd (dlt_trans (h1 a this) ha) hb
theorem cntD_uniq {d : α→Dt} {l : List α} {x : Dt} (hr : Rise d l) {k : Nat} (hk : k ≤ l.length) (h1 : ∀ i a,i < k→l[i]? = some a→dlt (d a) x) (h2 : ∀ i a,k ≤ i→l[i]? = some a→¬ dlt (d a) x) : cntD d l x = k:=by
 have hc:=cntD_le d l x
 rcases Nat.lt_trichotomy (cntD d l x) k with h | h | h
 ·have hg : l[cntD d l x]? = some l[cntD d l x]:=List.getElem?_eq_getElem (by omega)
  have:=(cntD_lt (x:=x) hr hg).2 (h1 _ _ h hg)
  omega
 ·exact h
 ·have hg : l[k]? = some l[k]:=List.getElem?_eq_getElem (by omega)
  exact absurd ((cntD_lt (x:=x) hr hg).1 h) (h2 _ _ (Nat.le_refl _) hg)
theorem rise_inj {d : α→Dt} {l : List α} (hr : Rise d l) {i j : Nat} {a b : α} (hi : l[i]? = some a) (hj : l[j]? = some b) (h : d a = d b) : i = j:=by
 rcases Nat.lt_trichotomy i j with hij | hij | hij
 ·exfalso
  have:=List.pairwise_iff_getElem.1 hr i j (List.getElem?_eq_some_iff.1 hi).1 (List.getElem?_eq_some_iff.1 hj).1 hij
  rw [(List.getElem?_eq_some_iff.1 hi).2,(List.getElem?_eq_some_iff.1 hj).2,h] at this
  exact dlt_irr _ this
 ·exact hij
 ·exfalso
  have:=List.pairwise_iff_getElem.1 hr j i (List.getElem?_eq_some_iff.1 hj).1 (List.getElem?_eq_some_iff.1 hi).1 hij
  rw [(List.getElem?_eq_some_iff.1 hi).2,(List.getElem?_eq_some_iff.1 hj).2,h] at this
  exact dlt_irr _ this
theorem cntD_at {d : α→Dt} {l : List α} {x : Dt} (hr : Rise d l) {i : Nat} {a : α} (hi : l[i]? = some a) (h : d a = x) : cntD d l x = i:=by
 have hlt:=(List.getElem?_eq_some_iff.1 hi).1
 refine cntD_uniq hr (by omega) (fun j b hj hb=>?_) (fun j b hj hb=>?_)
 ·have:=List.pairwise_iff_getElem.1 hr j i (List.getElem?_eq_some_iff.1 hb).1 hlt hj
  rw [(List.getElem?_eq_some_iff.1 hi).2,(List.getElem?_eq_some_iff.1 hb).2,h] at this
  exact this
 ·rcases Nat.eq_or_lt_of_le hj with e | e
  ·subst e
   rw [hi] at hb
   injection hb with hb
   subst hb
   rw [h]
   exact dlt_irr _
  ·have:=List.pairwise_iff_getElem.1 hr i j hlt (List.getElem?_eq_some_iff.1 hb).1 e
   rw [(List.getElem?_eq_some_iff.1 hi).2,(List.getElem?_eq_some_iff.1 hb).2,h] at this
   exact dlt_asymm this
theorem insD_perm (d : α→Dt) (l : List α) (e : α) : (insD d l e).Perm (e :: l):=by
 unfold insD
 refine List.perm_middle.trans (List.Perm.cons _ ?_)
 rw [List.take_append_drop]
theorem insD_mem (d : α→Dt) (l : List α) (e a : α) : a ∈ insD d l e ↔ a = e ∨ a ∈ l:=by
 rw [(insD_perm d l e).mem_iff,List.mem_cons]
theorem insD_len (d : α→Dt) (l : List α) (e : α) : (insD d l e).length = l.length + 1:=by
 rw [(insD_perm d l e).length_eq,List.length_cons]
theorem insD_rise {d : α→Dt} {l : List α} (hr : Rise d l) {e : α} (hne : ∀ a ∈ l,d a ≠ d e) : Rise d (insD d l e):=by
 unfold insD Rise
 rw [List.pairwise_append]
 have hs:=hr
 unfold Rise at hs
 rw [← List.take_append_drop (cntD d l (d e)) l,List.pairwise_append] at hs
 obtain ⟨h1,h2,h3⟩:=hs
 have hlo : ∀ a ∈ l.take (cntD d l (d e)),dlt (d a) (d e):=fun a ha=>by
  obtain ⟨i,hi⟩:=List.getElem?_of_mem ha
  have hil : i < cntD d l (d e):=by
   have:=(List.getElem?_eq_some_iff.1 hi).1
   rw [List.length_take] at this
   omega
  rw [List.getElem?_take,if_pos hil] at hi
  exact (cntD_lt hr hi).1 hil
 have hhi : ∀ a ∈ l.drop (cntD d l (d e)),dlt (d e) (d a):=fun a ha=>by
  obtain ⟨i,hi⟩:=List.getElem?_of_mem ha
  rw [List.getElem?_drop] at hi
  have hn : ¬ dlt (d a) (d e):=fun h=>by
   have:=(cntD_lt hr hi).2 h
   omega
  have hne:=hne a (List.mem_of_mem_drop ha)
  by_cases h : dlt (d e) (d a)
  ·exact h
  ·exact absurd (dlt_tri hn h) hne
 refine ⟨h1,List.pairwise_cons.2 ⟨hhi,h2⟩,fun a ha b hb=>?_⟩
 rcases List.mem_cons.1 hb with rfl | hb
 ·exact hlo a ha
 ·exact h3 a ha b hb
theorem rise_perm {d : α→Dt} : ∀ {l m : List α},Rise d l→Rise d m→l.Perm m→l = m
 | [],m,_,_,h=>h.symm.eq_nil.symm
 | a :: l,[],_,_,h=>h.eq_nil
 | a :: l,b :: m,h1,h2,h=>by
  obtain ⟨a1,a2⟩:=List.pairwise_cons.1 h1
  obtain ⟨b1,b2⟩:=List.pairwise_cons.1 h2
  have hab : a = b:=by
   rcases List.mem_cons.1 (h.mem_iff.1 List.mem_cons_self) with e | e
   ·exact e
   ·rcases List.mem_cons.1 (h.mem_iff.2 List.mem_cons_self) with e' | e'
    ·exact e'.symm
    ·exact absurd (b1 a e) (dlt_asymm (a1 b e'))
  subst hab
  rw [rise_perm a2 b2 (List.Perm.cons_inv h)]
theorem rise_nodup {d : α→Dt} {l : List α} (h : Rise d l) : (l.map d).Nodup:=by
 unfold List.Nodup
 rw [List.pairwise_map]
 exact h.imp fun h e=>by rw [e] at h; exact dlt_irr _ h
def delD (d : α→Dt) (l : List α) (x : Dt) : List α:=l.filter fun a=>decide (d a ≠ x)
theorem delD_at {d : α→Dt} {l : List α} {x : Dt} (hr : Rise d l) {i : Nat} {a : α} (hi : l[i]? = some a) (h : d a = x) : delD d l x = l.take i ++ l.drop (i + 1):=by
 have hlt:=(List.getElem?_eq_some_iff.1 hi).1
 have he : l = l.take i ++ a :: l.drop (i + 1):=by
  have:=(List.getElem?_eq_some_iff.1 hi).2
  rw [← this,List.getElem_cons_drop,List.take_append_drop]
 unfold delD
 conv=>lhs; rw [he]
 rw [List.filter_append,List.filter_cons_of_neg (by simp [h])]
 congr 1
 ·refine List.filter_eq_self.2 fun b hb=>?_
  obtain ⟨j,hj⟩:=List.getElem?_of_mem hb
  have hji : j < i:=by
   have:=(List.getElem?_eq_some_iff.1 hj).1
   rw [List.length_take] at this
   omega
  rw [List.getElem?_take,if_pos hji] at hj
  simp only [ne_eq,decide_eq_true_eq]
  intro hb2
  have:=rise_inj hr hj hi (hb2.trans h.symm)
  omega
 ·refine List.filter_eq_self.2 fun b hb=>?_
  obtain ⟨j,hj⟩:=List.getElem?_of_mem hb
  rw [List.getElem?_drop] at hj
  simp only [ne_eq,decide_eq_true_eq]
  intro hb2
  have:=rise_inj hr hj hi (hb2.trans h.symm)
  omega
theorem delD_rise {d : α→Dt} {l : List α} (hr : Rise d l) (x : Dt) : Rise d (delD d l x):=List.Pairwise.filter _ hr
end Go.Proofs.Ytdnaadcbimbfmaa
namespace Go.Proofs.Ytdnaadcbimbfmaa
open Go Go.RowKit Am
abbrev ElE:=Ev
abbrev ElT:=Ev × Dt
def dE (e : ElE) : Dt:=e.dot
def dT (x : ElT) : Dt:=x.1.dot
def itE (e : ElE) : List AV:=aI e.dot.R :: aI e.dot.N :: e.ac
def itT (x : ElT) : List AV:=aI x.1.dot.R :: aI x.1.dot.N :: (x.1.ac ++ x.2.ac)
theorem itE_len (e : ElE) : (itE e).length = 28:=rfl
theorem itT_len (e : ElT) : (itT e).length = 30:=rfl
def cmpD (a b : Dt) : Int:=orF [compareI a.R b.R,compareI a.N b.N]
theorem cmpD_lt (a b : Dt) : cmpD a b < 0 ↔ dlt a b:=by
 unfold cmpD orF orF orF compareI dlt
 repeat' split
 all_goals omega
theorem cmpD_eq (a b : Dt) : cmpD a b = 0 ↔ a = b:=by
 obtain ⟨a1,a2⟩:=a
 obtain ⟨b1,b2⟩:=b
 simp only [Dt.mk.injEq]
 unfold cmpD orF orF orF compareI
 simp only
 repeat' split
 all_goals omega
theorem half_eq (i j : Nat) (hi : i ≤ 1000000000) (hj : j ≤ 1000000000) : sy .wrp .i64 (sy .ar .shr .u64 (sy .wrp .u64 ((i + j : Nat) : Int)) 1) = (((i + j) / 2 : Nat) : Int):=by
 have e1 : IntKind.u64.wrap ((i + j : Nat) : Int) = ((i + j : Nat) : Int):=by
  simp [IntKind.wrap,IntKind.signed,IntKind.bits]
  omega
 have e2 : Int.fdiv ((i + j : Nat) : Int) (2 ^ (min (1 : Int).toNat 64)) = (((i + j) / 2 : Nat) : Int):=by
  simp
  rw [Int.fdiv_eq_ediv_of_nonneg _ (by omega)]
 simp only [sy]
 rw [e1]
 show IntKind.i64.wrap (Int.fdiv _ (2 ^ (min (1 : Int).toNat 64))) = _
 rw [e2]
 exact wrap_in (by omega) (by omega)
theorem halfF {F : Sy} (hF : F = sy) (i j : Nat) (i' j' : Int) (hi : i' = (i : Int)) (hj : j' = (j : Int)) (h2 : i ≤ 1000000) (h3 : j ≤ 1000000) : F .wrp .i64 (F .ar .shr .u64 (F .wrp .u64 (F .ar .add .i64 i' j')) 1) = (((i + j) / 2 : Nat) : Int):=by
 rw [addF hF hi hj (by omega),hF]
 exact half_eq i j (by omega) (by omega)
end Go.Proofs.Ytdnaadcbimbfmaa
namespace Go.Proofs.Ytdnaadcbimbfmaa
open Go Go.RowKit Am
theorem place1E_ok (a : ElE) (x : Dt) (ra : List AV) (hra : ra = itE a) (r : Int) (hr : r = cmpD (dE a) x) : CSem Try.prog (.fn 71) [.agg ra,.agg x.ac] (.pure [aI r]):=by
 subst hra
 refine of_text gam_ok mixed { n:=19 } Try.func71 (by kernel_rfl) rfl rfl (by simp) (by decide) fun F C D hF hC hD=>?_
 obtain ⟨c1,h1⟩ : ∃ c,c = compareI (dE a).R x.R:=⟨_,rfl⟩
 have k1:=hC _ _ _ (compare_ok (dE a).R x.R c1 h1)
 obtain ⟨c2,h2⟩ : ∃ c,c = compareI (dE a).N x.N:=⟨_,rfl⟩
 have k2:=hC _ _ _ (compare_ok (dE a).N x.N c2 h2)
 have k3:=hC _ _ _ (or_ok [c1,c2] _ rfl (by simp) r (by rw [hr,h1,h2]; rfl))
 clear h1 h2 hr
 cbv
 refine ⟨hC _ _ _ (ben_ok (by kernel_rfl)),?_⟩
 cbv
 refine ⟨_,k1,?_⟩
 cbv
 refine ⟨_,k2,?_⟩
 cbv
 refine ⟨_,k3,?_⟩
 cbv
 simp
set_option maxRecDepth 100000 in
set_option maxHeartbeats 2000000 in
theorem bsE_ok (l : List ElE) (hl : l.length ≤ 1000000) (hs : Rise dE l) (x : Dt) (rows : List (List AV)) (hrows : rows = l.map itE) (i : Nat) (i' : Int) (hi' : i' = (i : Int)) (hi : i = cntD dE l x) (t : Bool) (ht : t = decide (∃ a ∈ l,dE a = x)) :
  CSem Try.prog (.fn 70) [.sl rows,.agg x.ac,.clo 71 []] (.pure [aI i',aB t]):=by
 refine of_text gam_ok mixed { n:=49 } Try.func70 (by kernel_rfl) rfl rfl (by simp) (by decide) fun F C D hF hC hD=>?_
 obtain ⟨n',hn'⟩ : ∃ n' : Int,F .len rows = n':=⟨_,rfl⟩
 have en : n' = (l.length : Int):=by rw [← hn',lenF hF,hrows,List.length_map]
 have hil : i ≤ l.length:=by rw [hi]; exact cntD_le _ _ _
 have hat : ∀ (k : Nat),k < l.length→∃ a,l[k]? = some a∧rows[k]? = some (itE a)∧C (.fn 71) [.agg (itE a),.agg x.ac] (.pure [aI (cmpD (dE a) x)])∧(cmpD (dE a) x < 0 ↔ k < i)∧(cmpD (dE a) x = 0 ↔ dE a = x):=fun k hk=>by
  have hg : l[k]? = some l[k]:=List.getElem?_eq_getElem hk
  exact ⟨l[k],hg,by rw [hrows]; simp [hg],hC _ _ _ (place1E_ok l[k] x _ rfl _ rfl),by rw [cmpD_lt,hi]; exact (cntD_lt hs hg).symm,cmpD_eq _ _⟩
 have htt : ∀ a,l[i]? = some a→t = decide (dE a = x):=fun a ha=>by
  rw [ht]
  congr 1
  refine propext ⟨fun ⟨b,hb,hbx⟩=>?_,fun h=>⟨a,List.mem_of_getElem? ha,h⟩⟩
  obtain ⟨j,hj⟩:=List.getElem?_of_mem hb
  have:=cntD_at hs hj hbx
  rw [hi,this,hj] at ha
  injection ha with ha
  rw [← ha]; exact hbx
 have htn : ¬ i < l.length→t = false:=fun h=>by
  rw [ht]
  refine decide_eq_false fun ⟨b,hb,hbx⟩=>?_
  obtain ⟨j,hj⟩:=List.getElem?_of_mem hb
  have:=cntD_at hs hj hbx
  have:=(List.getElem?_eq_some_iff.1 hj).1
  omega
 obtain ⟨len,hlen⟩ : ∃ n,n = l.length:=⟨_,rfl⟩
 rw [← hlen] at hat htn hl hil en
 clear hs hi ht hrows
 cbv
 rw [hn']
 refine ⟨Nat × Nat × Int × Int,fun y=>{ slots:=[(9,aI y.2.2.1),(10,aI y.2.2.2),(8,aI n'),(4,.ept x.ac 0),(0,.sl rows),(2,.clo 71 [])],obs:=[],ctr:=0 },fun y=>y.2.2.1 = (y.1 : Int)∧y.2.2.2 = (y.2.1 : Int)∧y.1 ≤ i∧i ≤ y.2.1∧y.2.1 ≤ len,fun y=>y.2.1 - y.1,⟨(0,len,0,n'),⟨rfl,en,Nat.zero_le _,hil,Nat.le_refl _⟩,(le_of [] (by simp [leSl,leOb,injK,memK,parK,noTup,lk,rn0,rnA,plain] <;> first | rfl | decide | (repeat (first | rfl | trivial | refine And.intro ?_ ?_))))⟩,fun y hy=>?_⟩
 obtain ⟨a,b,a',b'⟩:=y
 obtain ⟨ea,eb,g1,g2,g3⟩:=hy
 simp only at ea eb g1 g2 g3
 have tl:=ltF hF a b a' b' ea eb
 obtain ⟨k,hk⟩ : ∃ k,k = (a + b) / 2:=⟨_,rfl⟩
 obtain ⟨k',hk'⟩ : ∃ k',F .wrp .i64 (F .ar .shr .u64 (F .wrp .u64 (F .ar .add .i64 a' b')) 1) = k':=⟨_,rfl⟩
 have ek : k' = (k : Int):=hk'.symm.trans ((halfF hF a b a' b' ea eb (by omega) (by omega)).trans (by rw [hk]))
 obtain ⟨k1,hk1⟩ : ∃ k1,F .ar .add .i64 k' 1 = k1:=⟨_,rfl⟩
 by_cases hab : a < b
 ·have tl : F .cmp .lss a' b' = true:=tl.2 hab
  have ek1 : k1 = ((k + 1 : Nat) : Int):=hk1.symm.trans (incF hF ek (by omega))
  obtain ⟨e,he,hre,hcall,hc1,hc2⟩:=hat k (by omega)
  obtain ⟨c,hc⟩ : ∃ c,c = cmpD (dE e) x:=⟨_,rfl⟩
  rw [← hc] at hcall hc1 hc2
  have tc : F .cmp .lss c 0 = decide (c < 0):=lsF hF c 0
  clear hat htt htn
  cbv
  refine bT (tl) ?_
  cbv
  rw [hk']
  refine ⟨hC _ _ _ (ben_ok (by kernel_rfl)),?_⟩
  cbv
  refine ⟨k,_,ek,hre,rfl,?_⟩
  cbv
  refine ⟨_,hcall,?_⟩
  cbv
  by_cases hneg : c < 0
  ·rw [tc.trans (decide_eq_true hneg)]
   refine bT (rfl) ?_
   cbv
   rw [hk1]
   exact ⟨(k + 1,b,k1,b'),⟨ek1,eb,hc1.1 hneg,g2,g3⟩,(show b - (k + 1) < b - a by omega),(le_of [] (by simp [leSl,leOb,injK,memK,parK,noTup,lk,rn0,rnA,plain] <;> first | rfl | decide | (repeat (first | rfl | trivial | refine And.intro ?_ ?_))))⟩
  ·rw [tc.trans (decide_eq_false hneg)]
   refine bF (rfl) ?_
   cbv
   have hki : ¬ k < i:=fun h=>hneg (hc1.2 h)
   exact ⟨(a,k,a',k'),⟨ea,ek,g1,(show i ≤ k by omega),(show k ≤ len by omega)⟩,(show k - a < b - a by omega),(le_of [] (by simp [leSl,leOb,injK,memK,parK,noTup,lk,rn0,rnA,plain] <;> first | rfl | decide | (repeat (first | rfl | trivial | refine And.intro ?_ ?_))))⟩
 ·have tl : F .cmp .lss a' b' = false:=by cases h : F .cmp .lss a' b' with | true=>exact absurd (tl.1 h) hab | false=>rfl
  obtain rfl : a = i:=by omega
  have eai : a' = i':=by rw [ea,hi']
  have tl2:=ltF hF a len a' n' ea en
  by_cases hal : a < len
  ·have tl2 : F .cmp .lss a' n' = true:=tl2.2 hal
   obtain ⟨e,he,hre,hcall,hc1,hc2⟩:=hat a hal
   obtain ⟨c,hc⟩ : ∃ c,c = cmpD (dE e) x:=⟨_,rfl⟩
   rw [← hc] at hcall hc2
   have tc : F .cmp .eql c 0 = t:=by
    rw [eqF hF,htt e he]
    exact decide_eq_decide.2 hc2
   clear hat htt htn
   cbv
   refine bF (tl) ?_
   cbv
   refine ⟨hC _ _ _ (ben_ok (by kernel_rfl)),?_⟩
   cbv
   rw [tl2]
   refine bT (rfl) ?_
   cbv
   refine ⟨a,_,ea,hre,rfl,?_⟩
   cbv
   refine ⟨_,hcall,?_⟩
   cbv
   rw [tc,eai]
   simp
  ·have tl2 : F .cmp .lss a' n' = false:=by cases h : F .cmp .lss a' n' with | true=>exact absurd (tl2.1 h) hal | false=>rfl
   have ht:=htn hal
   subst ht
   clear hat htt htn
   cbv
   refine bF (tl) ?_
   cbv
   refine ⟨hC _ _ _ (ben_ok (by kernel_rfl)),?_⟩
   cbv
   rw [tl2]
   refine bF (rfl) ?_
   cbv
   rw [eai]
   simp
end Go.Proofs.Ytdnaadcbimbfmaa
namespace Go.Proofs.Ytdnaadcbimbfmaa
open Go Go.RowKit Am
variable {P : Program}
theorem run_copy_rowN (w : World) (dT sT ty elem : TypeId) (g o dLen dCap : Nat) (a : Addr) (sLen sCap : Nat) (cur : Array Value) (t : TypeId) (cs : List Value) (i : TypeInfo)
  (hu : P.underlying dT = some (.slice elem)) (hi : P.info? elem = some i) (hg : w.heap[g]? = some (.cells cur t (0,0))) (hn : cs.length = Nat.min sLen dLen * i.size)
  (hsrc : ∀ j v,cs[j]? = some v→w.cell? (a.add j) = some v) (hfit : o + cs.length ≤ cur.size) (h1 : ∀ v ∈ cs,v.oneCell' = true) :
  (Builtin.copy_ #[dT,sT] ty #[.slice (some ⟨g,o,none⟩) dLen dCap,.slice (some a) sLen sCap]).run P w =
   .ok (goInt (Nat.min sLen dLen)) (w.setRow g (cur.toList.take o ++ cs ++ cur.toList.drop (o + cs.length)).toArray):=by
 have hl:=run_loadCells_list (P:=P) w a cs hsrc
 rw [hn] at hl
 have hst:=run_storeCells_at P g o t cs 0 cur w hg (by simpa using hfit) h1
 simp [Builtin.copy_,run_underlying hu,Builtin.lenOf,Builtin.firstCells,sizeOf,typeInfo,hi,hl]
 simpa using congrArg (fun r=>r.andThen fun _ w=>Result.ok (goInt (Nat.min sLen dLen)) w) hst
theorem run_append_room (w : World) (t ty e : TypeId) (i : TypeInfo) (ht : P.underlying t = some (.slice e)) (hi : P.info? e = some i) (g n cap : Nat) (cur : Array Value) (tt : TypeId) (a : Addr) (m c : Nat) (news : List Value)
  (hg : w.heap[g]? = some (.cells cur tt (0,0))) (hl : news.length = m * i.size) (hnews : ∀ j u,news[j]? = some u→w.cell? (a.add j) = some u) (h1 : ∀ u ∈ news,u.oneCell' = true) (hroom : n + m ≤ cap) (hfit : n * i.size + news.length ≤ cur.size) :
  (Builtin.append_ #[t,t] ty #[.slice (some ⟨g,0,none⟩) n cap,.slice (some a) m c]).run P w = .ok (.slice (some ⟨g,0,none⟩) (n + m) cap) (w.setRow g (cur.toList.take (n * i.size) ++ news ++ cur.toList.drop (n * i.size + news.length)).toArray):=by
 have hf:=run_firstCells_some (P:=P) w i.size m a m c news hl hnews
 have hst:=run_storeCells_at P g (n * i.size) tt news 0 cur w hg (by simpa using hfit) h1
 simp only [Nat.add_zero] at hst
 simp [Builtin.append_,run_underlying ht,sizeOf,typeInfo,hi,Builtin.lenOf,hroom,hf,Addr.add_lit,hst]
theorem run_clearN (w : World) (t e ty : TypeId) (i : TypeInfo) (z : Value) (ht : P.underlying t = some (.slice e)) (hv : ∀ w,(zeroValue e).run P w = .ok z w) (hz1 : ∀ v ∈ z.cells.toList,v.oneCell' = true) (g o n c : Nat) (hn : 0 < n) (cur : Array Value) (tt : TypeId)
  (hg : w.heap[g]? = some (.cells cur tt (0,0))) (hfit : o + n * z.cells.size ≤ cur.size) :
  (Builtin.clear_ #[t] ty #[.slice (some ⟨g,o,none⟩) n c]).run P w = .ok (.tuple #[]) (w.setRow g (cur.toList.take o ++ (Builtin.zeroCells z.cells n).toList ++ cur.toList.drop (o + n * z.cells.size)).toArray):=by
 have hsz : (Builtin.zeroCells z.cells n).toList.length = n * z.cells.size:=by simp [Builtin.zeroCells]
 have h1 : ∀ v ∈ (Builtin.zeroCells z.cells n).toList,v.oneCell' = true:=fun v hv'=>by
  simp only [Builtin.zeroCells,Array.toList_map,List.mem_map,Array.mem_toList_iff,Array.mem_range] at hv'
  obtain ⟨j,hj,rfl⟩:=hv'
  have hp : 0 < z.cells.size:=by
   rcases Nat.eq_zero_or_pos z.cells.size with h | h
   ·rw [h] at hj; omega
   ·exact h
  have hlt:=Nat.mod_lt j hp
  rw [getElem!_pos z.cells _ hlt]
  exact hz1 _ (by simp)
 have hst:=run_storeCells_at P g o tt _ 0 cur w hg (by simpa [hsz] using hfit) h1
 rw [hsz] at hst
 simp only [Nat.add_zero] at hst
 obtain ⟨m,rfl⟩ : ∃ m,n = m + 1:=⟨n - 1,by omega⟩
 simp [Builtin.clear_,run_underlying ht,hv,hst]
theorem take_flat {α : Type} {sz : Nat} : ∀ (l : List (List α)),(∀ r ∈ l,r.length = sz)→∀ k,l.flatten.take (k * sz) = (l.take k).flatten
 | [],_,k=>by simp
 | r :: l,h,0=>by simp
 | r :: l,h,k + 1=>by
  have hr:=h r List.mem_cons_self
  rw [List.flatten_cons,List.take_succ_cons,List.flatten_cons,Nat.succ_mul,List.take_append,List.take_of_length_le (by omega),← take_flat l (fun r hr=>h r (List.mem_cons_of_mem _ hr)) k]
  congr 2
  omega
theorem drop_flat {α : Type} {sz : Nat} : ∀ (l : List (List α)),(∀ r ∈ l,r.length = sz)→∀ k,l.flatten.drop (k * sz) = (l.drop k).flatten
 | [],_,k=>by simp
 | r :: l,h,0=>by simp
 | r :: l,h,k + 1=>by
  have hr:=h r List.mem_cons_self
  rw [List.flatten_cons,List.drop_succ_cons,Nat.succ_mul,List.drop_append,List.drop_of_length_le (by omega),List.nil_append,← drop_flat l (fun r hr=>h r (List.mem_cons_of_mem _ hr)) k]
  congr 1
  omega
theorem flat_len {α : Type} {sz : Nat} : ∀ (l : List (List α)),(∀ r ∈ l,r.length = sz)→l.flatten.length = l.length * sz
 | [],_=>by simp
 | r :: l,h=>by rw [List.flatten_cons,List.length_append,h r List.mem_cons_self,flat_len l fun r hr=>h r (List.mem_cons_of_mem _ hr),List.length_cons,Nat.succ_mul]; omega
end Go.Proofs.Ytdnaadcbimbfmaa
namespace Go.Proofs.Ytdnaadcbimbfmaa
open Go Go.RowKit Am
theorem list1 {P : Program} {ops : Array Oper} {W W' : World} {Q : Exit→Act→World→Prop} {rest : List Oper} {a : Act} {o : Oper} (v : Value) (hg : o.guard = none) (h : (execOp a.eval o).run P W = .ok (.value v) W') (k : wpList P ops Q rest (a.put o.dst v) W') : wpList P ops Q (o :: rest) a W:=by
 refine wpList_plain hg fun K' hK'=>?_
 unfold Oper.wp
 rw [h]
 exact hK' _ _ k
theorem evT (a : Act) (t : Nat) : a.eval (.tmp t) = a.tmps.getD t undef:=rfl
theorem put_ne {a : Act} {d t : Nat} {v : Value} (hd : d < a.tmps.size) (h : t ≠ d) : (a.put (some d) v).tmps.getD t undef = a.tmps.getD t undef:=by rw [getD_put a d t v hd,if_neg h]
theorem put_eq {a : Act} {d : Nat} {v : Value} (hd : d < a.tmps.size) : (a.put (some d) v).tmps.getD d undef = v:=by rw [getD_put a d d v hd,if_pos rfl]
theorem rel_fresh {W : World} {S : Nat→Prop} {a : Act} {n : Nat} {sl : List (Nat × AV)} (hS : ∀ g,S g→g < W.heap.size) (hgd : gdOK W S) (hd : a.defers = []) (hz : a.tmps.size = n) (h : ∀ t x,lk t sl = some x→t < n∧SRep W S (fun _=>.bool true) [] x (a.tmps.getD t undef)) :
  Rel { W:=W,par:=0,M:=fun _=>False,b0:=fun _=>.bool true } S n { slots:=sl,obs:=[],ctr:=0 } a W :=
 ⟨S,fun _=>.bool true,GrK.refl hS hgd,rfl,hd,hz,h,fun k o h=>by simp [lk] at h,fun k o g h=>by simp [lk] at h,fun k k' o o' h=>by simp [lk] at h,fun k o h=>by simp [lk] at h,Nat.le_refl _,fun k o _ h=>by simp [lk] at h⟩
structure HI (n : Nat) (sl : List (Nat × AV)) (S : Nat→Prop) (a : Act) (w : World) : Prop where
 size : a.tmps.size = n
 defers : a.defers = []
 lt : ∀ g,S g→g < w.heap.size
 gd : gdOK w S
 slots : ∀ t x,lk t sl = some x→t < n∧SRep w S (fun _=>.bool true) [] x (a.tmps.getD t undef)
theorem HI.rel {n : Nat} {sl : List (Nat × AV)} {S : Nat→Prop} {a : Act} {w : World} (h : HI n sl S a w) : Rel { W:=w,par:=0,M:=fun _=>False,b0:=fun _=>.bool true } S n { slots:=sl,obs:=[],ctr:=0 } a w:=rel_fresh h.lt h.gd h.defers h.size h.slots
def fzA : AV→Bool
 | .ptr _ _=>false | .own _ _=>false | .rel _ _ _ _ _ _=>false | .osl _ _ _=>false | .mo _=>false | .tup _=>false
 | _=>true
theorem lk_mem {α : Type} {t : Nat} {x : α} : ∀ {l : List (Nat × α)},lk t l = some x→(t,x) ∈ l
 | [],h=>by simp [lk] at h
 | (k,y) :: l,h=>by
  simp only [lk] at h
  split at h
  ·rename_i e; injection h with h; subst h; subst e; exact List.mem_cons_self
  ·exact List.mem_cons_of_mem _ (lk_mem h)
theorem srep_b {w : World} {S : Nat→Prop} {β : Nat→Value} {x : AV} {y : Value} (h : SRep w S β [] x y) (hx : fzA x = true) : SRep w S (fun _=>.bool true) [] x y:=by
 cases x <;> first | exact h | (simp [fzA] at hx)
theorem HI.of {W : World} {S : Nat→Prop} {n : Nat} {sl : List (Nat × AV)} {c p : Nat} {b0 : Nat→Value} {a : Act} {w : World} (h : Rel { W:=W,par:=0,M:=fun _=>False,b0:=b0 } S n { slots:=sl,obs:=[],ctr:=c,par:=p } a w) (hsl : ∀ q ∈ sl,fzA q.2 = true) : ∃ S',HI n sl S' a w∧Gr W S w S':=by
 obtain ⟨S1,β1,hr⟩:=h
 refine ⟨S1,⟨hr.size,hr.defers,hr.gr.lt,hr.gr.gd.2,fun t x ht=>?_⟩,hr.gr.gr (fun _ h=>h)⟩
 obtain ⟨h1,h2⟩:=hr.slots t x ht
 exact ⟨h1,srep_b h2 (hsl (t,x) (lk_mem ht))⟩
theorem HI.out {n : Nat} {sl : List (Nat × AV)} {S : Nat→Prop} {a : Act} {w w' : World} (h : HI n sl S a w) (hs : SameOn S w w') (hz : w.heap.size ≤ w'.heap.size) : HI n sl S a w' :=
 ⟨h.size,h.defers,fun g hg=>Nat.lt_of_lt_of_le (h.lt g hg) hz,h.gd.mono hs fun _ h=>h,fun t x ht=>by
  obtain ⟨h1,h2⟩:=h.slots t x ht
  exact ⟨h1,srep_mono hs (fun _ h=>h) h2⟩⟩
theorem HI.put {n : Nat} {sl : List (Nat × AV)} {S : Nat→Prop} {a : Act} {w : World} (h : HI n sl S a w) {d : Nat} (hd : d < n) (x : AV) {v : Value} (hv : SRep w S (fun _=>.bool true) [] x v) : HI n ((d,x) :: sl) S (a.put (some d) v) w:=by
 refine ⟨by rw [put_size]; exact h.size,by rw [put_defers]; exact h.defers,h.lt,h.gd,fun t y ht=>?_⟩
 simp only [lk] at ht
 by_cases htd : d = t
 ·rw [if_pos htd] at ht
  injection ht with ht
  subst ht; subst htd
  exact ⟨hd,by rw [put_eq (by rw [h.size]; exact hd)]; exact hv⟩
 ·rw [if_neg htd] at ht
  obtain ⟨h1,h2⟩:=h.slots t y ht
  exact ⟨h1,by rw [put_ne (by rw [h.size]; exact hd) (fun e=>htd e.symm)]; exact h2⟩
theorem HI.sub {n : Nat} {sl sl' : List (Nat × AV)} {S : Nat→Prop} {a : Act} {w : World} (h : HI n sl S a w) (hs : ∀ t x,lk t sl' = some x→lk t sl = some x) : HI n sl' S a w :=
 ⟨h.size,h.defers,h.lt,h.gd,fun t x ht=>h.slots t x (hs t x ht)⟩
theorem HI.grow {n : Nat} {sl : List (Nat × AV)} {S S' : Nat→Prop} {a : Act} {w w' : World} (h : HI n sl S a w) (hg : Gr w S w' S') : HI n sl S' a w' :=
 ⟨h.size,h.defers,hg.lt,h.gd.mono (hg.same h.lt) hg.sub,fun t x ht=>by
  obtain ⟨h1,h2⟩:=h.slots t x ht
  exact ⟨h1,srep_mono (hg.same h.lt) hg.sub h2⟩⟩
theorem pc {E : En} {c : Code} {R : Exit→Act→World→Prop} {sl : List (Nat × AV)} {S : Nat→Prop} {a : Act} {w : World} (sl' : List (Nat × AV)) (h : HI E.n sl S a w) (hsl : ∀ q ∈ sl',fzA q.2 = true)
  (hw : ∀ (F : Sy) (C : Key→List AV→Res→Prop) (D : Code→(AE→St→Prop)→St→Prop),F = sy→(∀ k ar r,CSem Try.prog k ar r→C k ar r)→awp F C D E c (fun e s=>match e with | .normal=>∃ ct,Le s { slots:=sl',obs:=[],ctr:=ct } | _=>False) { slots:=sl,obs:=[],ctr:=0 })
  (k : ∀ S' a' w',HI E.n sl' S' a' w'→Gr w S w' S'→R .normal a' w') : c.wp Try.prog R a w:=by
 refine awp_ok gam_ok mixed c _ R _ a w (hw sy (CSem Try.prog) (Snd Try.prog E) rfl (fun _ _ _ h=>h)) h.rel fun e st' a' w' hq hr=>?_
 cases e with
 | ret=>exact hq.elim
 | exit _=>exact hq.elim
 | normal =>
  obtain ⟨ct,hq⟩:=hq
  obtain ⟨S',h1,h2⟩:=HI.of (hq _ _ _ _ _ hr) hsl
  exact k S' a' w' h1 h2
theorem pcl {E : En} {ops : Array Oper} {rest : List Oper} {R : Exit→Act→World→Prop} {sl : List (Nat × AV)} {S : Nat→Prop} {a : Act} {w : World} (sl' : List (Nat × AV)) (h : HI E.n sl S a w) (hsl : ∀ q ∈ sl',fzA q.2 = true)
  (hw : ∀ (F : Sy) (C : Key→List AV→Res→Prop),F = sy→(∀ k ar r,CSem Try.prog k ar r→C k ar r)→aops F C E ops.toList rest (fun s=>∃ ct,Le s { slots:=sl',obs:=[],ctr:=ct }) { slots:=sl,obs:=[],ctr:=0 })
  (k : ∀ S' a' w',HI E.n sl' S' a' w'→Gr w S w' S'→R .normal a' w') : wpList Try.prog ops R rest a w:=by
 refine aops_ok gam_ok (fun st' a' w' hk hr'=>?_) rest _ a w (hw sy (CSem Try.prog) rfl (fun _ _ _ h=>h)) h.rel
 obtain ⟨ct,hk⟩:=hk
 obtain ⟨S',h1,h2⟩:=HI.of (hk _ _ _ _ _ hr') hsl
 exact k S' a' w' h1 h2
def thenL (P : Program) (ops : Array Oper) (Q : Exit→Act→World→Prop) (rest : List Oper) : Exit→Act→World→Prop
 | .normal,a,w=>wpList P ops Q rest a w
 | e,a,w=>Q e a w
theorem oper_wp_then {P : Program} {ops : Array Oper} {Q : Exit→Act→World→Prop} {rest : List Oper} {o : Oper} {a : Act} {w : World} {K K' : Act→World→Prop} (hk : ∀ a w,K a w→K' a w) (h : o.wp P a w K (thenL P ops Q rest)) : o.wp P a w K' Q:=by
 unfold Oper.wp at *
 generalize (execOp a.eval o).run P w = r at *
 cases r with
 | ok n w' =>
  cases n <;> simp only [Oper.upon] at h ⊢ <;>
   first
    | exact hk _ _ h
    | exact Calls.mono h (fun e w'' he=>by cases e <;> first | exact hk _ _ he | exact he)
    | exact Rows.mono h (fun _ _ he=>hk _ _ he)
 | halt x w'=>cases x <;> simp only [Oper.upon] at h ⊢ <;> exact h
theorem wpList_app {P : Program} {ops : Array Oper} {Q : Exit→Act→World→Prop} {rest : List Oper} : ∀ {pre : List Oper} {a : Act} {w : World},wpList P ops (thenL P ops Q rest) pre a w→wpList P ops Q (pre ++ rest) a w
 | [],a,w,h=>h
 | o :: pre,a,w,h=>by
  rw [List.cons_append]
  unfold wpList at h ⊢
  split at h
  ·rename_i hw
   rw [if_pos hw]
   rcases h with h | ⟨h1,h⟩
   ·exact .inl (oper_wp_then (fun _ _ h=>wpList_app h) h)
   ·exact .inr ⟨h1,h⟩
  ·rename_i hw
   rw [if_neg hw]
   exact wpList_app h
theorem callW {P : Program} {ops : Array Oper} {Q : Exit→Act→World→Prop} {rest : List Oper} {a : Act} {w : World} {o : Oper} {f : Nat} {args : Array Operand} {tys : Array TypeId} (xs : List Value) (hg : o.guard = none) (ho : o.op = .call { callee:=.value (.func f),args:=args,argTypes:=tys })
  (hf : ∀ cs w,(callFunc f cs).run P w = .ok (.enter f cs) w) (hx : args.map a.eval = xs.toArray) (hc : Calls P f xs.toArray w fun e w'=>∃ v,e = .returned v∧wpList P ops Q rest (a.put o.dst v) w') : wpList P ops Q (o :: rest) a w:=by
 refine wpList_plain hg fun K' hK'=>?_
 refine wp_enter (run_call (caps:=[]) ho rfl hf) ?_
 rw [show (args.toList.map a.eval ++ [] : List Value) = xs by rw [List.append_nil,← Array.toList_map,hx]]
 refine hc.mono ?_
 rintro e w' ⟨v,rfl,h⟩
 exact ⟨v,rfl,hK' _ _ h⟩
structure Kp (U : Nat→Prop) (w w' : World) : Prop where
 os : w'.os = w.os
 tape : w'.tape = w.tape
 output : w'.output = w.output
 size : w.heap.size ≤ w'.heap.size
 block : ∀ g,g < w.heap.size→¬ U g→w'.heap[g]? = w.heap[g]?
theorem Kp.refl (U : Nat→Prop) (w : World) : Kp U w w:=⟨rfl,rfl,rfl,Nat.le_refl _,fun _ _ _=>rfl⟩
theorem Kp.of {U : Nat→Prop} {w w' : World} (h : Below w.heap.size w w') : Kp U w w':=⟨h.os,h.tape,h.output,h.size,fun g hg _=>h.block g hg⟩
theorem Kp.trans {U U' : Nat→Prop} {w w1 w2 : World} (h : Kp U w w1) (k : Kp U' w1 w2) (hU : ∀ g,U' g→U g ∨ w.heap.size ≤ g) : Kp U w w2 :=
 ⟨k.os.trans h.os,k.tape.trans h.tape,k.output.trans h.output,Nat.le_trans h.size k.size,fun g hg hn=>(k.block g (Nat.lt_of_lt_of_le hg h.size) fun hu=>(hU g hu).elim hn (fun h=>by omega)).trans (h.block g hg hn)⟩
theorem Kp.same {U S : Nat→Prop} {w w' : World} (h : Kp U w w') (hS : ∀ g,S g→g < w.heap.size) (hU : ∀ g,S g→¬ U g) : SameOn S w w':=fun g hg=>h.block g (hS g hg) (hU g hg)
end Go.Proofs.Ytdnaadcbimbfmaa
namespace Go.Proofs.Ytdnaadcbimbfmaa
open Go Go.RowKit Am Go.Lib
theorem step_copyNE {ops : Array Oper} {o : Oper} {a : Act} {w : World} {K : Act→World→Prop} {Q : Exit→Act→World→Prop} {E : Prop}
  (hg : o.guard = none) (d x : Operand) (dT sT : TypeId) (hop : o.op = Op.call { callee:=Callee.builtin Builtin.copy,args:=#[d,x],argTypes:=#[dT,sT] })
  (v u : Value) (hd : a.eval d = v) (hx : a.eval x = u) {v' : Value} {w' : World} (hr : (Builtin.copy_ #[dT,sT] o.type #[v,u]).run Try.prog w = .ok v' w') (hK : K (a.put o.dst v') w') :
  if Region.wanted o (yielded ops a.tmps) = true then Oper.wp Try.prog o a w K Q else E:=by
 have hw : Region.wanted o (yielded ops a.tmps) = true:=by simp [Region.wanted,hg]
 rw [if_pos hw]
 unfold Oper.wp
 simp [execOp,hop,resolve,invoke,builtin,hd,hx,hr,Result.andThen]
 exact hK
theorem list_copyNE (w : World) {ops : Array Oper} {rest : List Oper} {o : Oper} {a : Act} {Q : Exit→Act→World→Prop} (hgd : o.guard = none) (d s : Operand) (t t' : TypeId)
  (ho : o.op = .call { callee:=.builtin .copy,args:=#[d,s],argTypes:=#[t,t'] }) (v u : Value) (hd : a.eval d = v) (hs : a.eval s = u) {v' : Value} {w' : World}
  (hr : (Builtin.copy_ #[t,t'] o.type #[v,u]).run Try.prog w = .ok v' w') (h : wpList Try.prog ops Q rest (a.put o.dst v') w') : wpList Try.prog ops Q (o :: rest) a w:=by
 refine list1 v' hgd ?_ h
 simp only [execOp,ho,resolve,invoke,builtin,Sem.run_bind,Sem.run_pure,Result.andThen_ok,List.map_toArray,List.map_cons,List.map_nil,hd,hs,hr]
theorem infoItE : ∃ i z,Try.prog.info? 65 = some i∧i.zero = some z∧i.size = 28∧z.cells.size = 28∧(∀ v ∈ z.cells.toList,v.oneCell' = true)∧i.bytes ≤ 300:=by
 have h : (match Try.prog.info? 65 with | some i=>(match i.zero with | some z=>i.size == 28 && z.cells.size == 28 && z.cells.toList.all (fun v=>v.oneCell') && Nat.ble i.bytes 300 | none=>false) | none=>false) = true:=by kernel_rfl
 cases h1 : Try.prog.info? 65 with
 | none=>rw [h1] at h; cases h
 | some i =>
  rw [h1] at h
  cases h2 : i.zero with
  | none=>simp only [h2] at h; cases h
  | some z =>
   simp only [h2,Bool.and_eq_true,beq_iff_eq,List.all_eq_true,Nat.ble_eq] at h
   exact ⟨i,z,rfl,h2,h.1.1.1,h.1.1.2,h.1.2,h.2⟩
set_option maxHeartbeats 4000000 in
set_option maxRecDepth 100000 in
theorem insEndE (w : World) (v : Value) (n : Nat) (xs : List Value) (vb : Nat) (vs : List Value) (hown : w.ownsRow 0 65 28 v n xs) (hat : w.heap[vb]? = some (.cells vs.toArray 65 (0,0))) (hvl : vs.length = 28) (h1 : ∀ u ∈ vs,u.oneCell' = true) (hn : n ≤ 1000000) :
  Calls Try.prog 57 #[v,.int .i64 n,.slice (some ⟨vb,0,none⟩) 1 1] w fun e w'=>∃ v',e = .returned v'∧w'.ownsRow 0 65 28 v' (n + 1) (xs ++ vs)∧w.grownBy w' v.ownBlock∧(v'.ownBlock = v.ownBlock ∨ v'.ownBlock = some w.heap.size):=by
 obtain ⟨i0,z,hi0,hz,hsz,hzs,hz1,hby⟩:=infoItE
 obtain ⟨v',w',hr,q1,q2,q3⟩:=run_append_at (P:=Try.prog) w 62 62 65 i0 z 28 i0.bytes Try.underlying62 hi0 hz hsz rfl hzs (by decide) v n xs (OwnR.of hown) ⟨vb,0,none⟩ 1 1 vs (by rw [hvl])
  (fun j u hj=>by rw [add_mk,cell_of_row _ _ j _ _ _ hat]; simpa using hj) h1 (by unfold maxLen; omega) (by have:=Nat.mul_le_mul (show n + 1 ≤ 1000001 by omega) hby; omega)
 have q1:=OwnR.owns (by decide) q1
 have hfit : ¬ ((n : Int) < 0):=by omega
 rcases hown.2 with ⟨rfl,rfl⟩ | ⟨g,cap,cur,rfl,_,hg,hnc,hcm,hcs,htk⟩
 ·go_enter Try.func57,Try.ntmps57
  go_wp2_with (at_builtin; refine Lib.wpList_append_run _ rfl _ _ _ _ rfl _ _ rfl rfl _ _ hr ?_)
  go_ret
  exact ⟨_,rfl,q1,q2,q3⟩
 ·have hcap : cap ≤ 9223372036854775807:=by unfold maxLen at hcm; omega
  go_enter Try.func57,Try.ntmps57
  go_wp2_with (at_builtin; refine Lib.wpList_append_run _ rfl _ _ _ _ rfl _ _ rfl rfl _ _ hr ?_)
  all_goals (go_ret; exact ⟨_,rfl,q1,q2,q3⟩)
end Go.Proofs.Ytdnaadcbimbfmaa
namespace Go.Proofs.Ytdnaadcbimbfmaa
open Go Go.RowKit Am Go.Lib
theorem ins_listE {α : Type} (cur vs : List α) (a s N : Nat) (hvs : vs.length = s) (ha : a ≤ N) (hl : N + s ≤ cur.length) :
  (cur.take (a + s) ++ (cur.take N).drop a ++ cur.drop (a + s + (N - a))).take a ++ vs ++ (cur.take (a + s) ++ (cur.take N).drop a ++ cur.drop (a + s + (N - a))).drop (a + s) = (cur.take N).take a ++ vs ++ (cur.take N).drop a ++ cur.drop (N + s):=by
 have e1 : (cur.take (a + s) ++ (cur.take N).drop a ++ cur.drop (a + s + (N - a))).take a = (cur.take N).take a:=by
  rw [List.append_assoc,List.take_append_of_le_length (by rw [List.length_take]; omega),List.take_take,List.take_take]
  congr 1
  omega
 have e2 : (cur.take (a + s) ++ (cur.take N).drop a ++ cur.drop (a + s + (N - a))).drop (a + s) = (cur.take N).drop a ++ cur.drop (N + s):=by
  rw [List.append_assoc,List.drop_append,List.drop_of_length_le (by rw [List.length_take]; omega),List.length_take,show a + s - min (a + s) cur.length = 0 by omega,List.drop_zero,List.nil_append]
  congr 2
  omega
 rw [e1,e2]
 simp
theorem slotE {w : World} {g : Nat} {cur : Array Value} {t : TypeId} {fz : Nat × Nat} {xs : List Value} (h : w.heap[g]? = some (.cells cur t fz)) (a : Nat) (hx : ∀ j u,xs[j]? = some u→cur.toList[a + j]? = some u) : ∀ j u,xs[j]? = some u→w.cell? ((⟨g,a,none⟩ : Addr).add j) = some u:=fun j u hj=>by
 rw [Addr.add_lit,cell_of_row _ _ (a + j) _ _ _ h]
 have:=hx j u hj
 simpa using this
set_option maxHeartbeats 4000000 in
set_option maxRecDepth 100000 in
theorem insShiftE (w : World) (g n cap i : Nat) (cur : Array Value) (vb : Nat) (vs : List Value) (hg : w.heap[g]? = some (.cells cur 65 (0,0))) (hi : i < n) (hroom : n + 1 ≤ cap) (hcm : cap ≤ maxLen) (hcs : cur.size = cap * 28) (ho : ∀ v ∈ cur.toList.take (n * 28),v.oneCell' = true)
  (hat : w.heap[vb]? = some (.cells vs.toArray 65 (0,0))) (hne : vb ≠ g) (hvl : vs.length = 28) (h1 : ∀ u ∈ vs,u.oneCell' = true) (hn : n ≤ 1000000) :
  Calls Try.prog 57 #[.slice (some ⟨g,0,none⟩) n cap,.int .i64 i,.slice (some ⟨vb,0,none⟩) 1 1] w fun e w'=>∃ A : Array Value,e = .returned (.slice (some ⟨g,0,none⟩) (n + 1) cap)∧w' = w.drew.setRow g A∧A.toList = (cur.toList.take (n * 28)).take (i * 28) ++ vs ++ (cur.toList.take (n * 28)).drop (i * 28) ++ cur.toList.drop (n * 28 + 28):=by
 obtain ⟨i0,z,hi0,hz,hsz,hzs,hz1,hby⟩:=infoItE
 have hu:=Try.underlying62
 have mixed:=mixed
 have hcap : cap ≤ 9223372036854775807:=by unfold maxLen at hcm; omega
 have hz1 : ¬ ((i : Int) = (n : Int)):=by omega
 have hlen : cur.toList.length = cap * 28:=by simpa using hcs
 have hN : n * 28 + 28 ≤ cap * 28:=by omega
 obtain ⟨cs,hcs0⟩ : ∃ cs,cs = (cur.toList.take (n * 28)).drop (i * 28):=⟨_,rfl⟩
 have hcl : cs.length = (n - i) * 28:=by rw [hcs0,List.length_drop,List.length_take]; omega
 obtain ⟨A1,hA1⟩ : ∃ A,A = (cur.toList.take ((i + 1) * 28) ++ cs ++ cur.toList.drop ((i + 1) * 28 + cs.length)).toArray:=⟨_,rfl⟩
 have hA1s : A1.size = cap * 28:=by rw [hA1,List.size_toArray]; simp only [List.length_append,List.length_take,List.length_drop]; omega
 have hcp1 : ∀ ty dc sc,(Builtin.copy_ #[62,62] ty #[.slice (some ⟨g,(i + 1) * 28,none⟩) (n + 1 - (i + 1)) dc,.slice (some ⟨g,i * 28,none⟩) (n + 1 - i) sc]).run Try.prog w.drew = .ok (goInt ((n - i : Nat) : Int)) (w.drew.setRow g A1):=fun ty dc sc=>by
  have hmin : Nat.min (n + 1 - i) (n + 1 - (i + 1)) = n - i:=by simp only [Nat.min_def]; split <;> omega
  have:=run_copy_rowN (P:=Try.prog) w.drew 62 62 ty 65 g ((i + 1) * 28) (n + 1 - (i + 1)) dc ⟨g,i * 28,none⟩ (n + 1 - i) sc cur 65 cs i0 hu hi0 hg (by rw [hcl,hsz,hmin])
   (slotE (w:=w.drew) hg _ fun j u hj=>by
    rw [hcs0,List.getElem?_drop,List.getElem?_take] at hj
    split at hj
    ·exact hj
    ·cases hj) (by rw [hcl,hcs]; omega) (fun v hv=>ho v (by rw [hcs0] at hv; exact List.mem_of_mem_drop hv))
  rw [hmin,← hA1] at this
  exact this
 obtain ⟨A2,hA2⟩ : ∃ A,A = (A1.toList.take (i * 28) ++ vs ++ A1.toList.drop (i * 28 + vs.length)).toArray:=⟨_,rfl⟩
 have hW1 : (w.drew.setRow g A1).heap[g]? = some (.cells A1 65 (0,0)):=setRow_heap w.drew g cur A1 _ _ hg
 have hcp2 : ∀ ty dc,(Builtin.copy_ #[62,62] ty #[.slice (some ⟨g,i * 28,none⟩) (n + 1 - i) dc,.slice (some ⟨vb,0,none⟩) 1 1]).run Try.prog (w.drew.setRow g A1) = .ok (goInt 1) (w.drew.setRow g A2):=fun ty dc=>by
  have hmin : Nat.min 1 (n + 1 - i) = 1:=by simp only [Nat.min_def]; split <;> omega
  have:=run_copy_rowN (P:=Try.prog) (w.drew.setRow g A1) 62 62 ty 65 g (i * 28) (n + 1 - i) dc ⟨vb,0,none⟩ 1 1 A1 65 vs i0 hu hi0 hW1 (by rw [hvl,hsz,hmin])
   (slotE (w:=w.drew.setRow g A1) ((setRow_other w.drew g vb A1 hne).trans hat) _ fun j u hj=>by simpa using hj) (by rw [hvl,hA1s]; omega) h1
  rw [hmin,← hA2,setRow_setRow] at this
  exact this
 have hov : ∀ lb cb,(callFunc 78 #[.slice (some ⟨vb,0,none⟩) 1 1,.slice (some ⟨g,(i + 1) * 28,none⟩) lb cb]).run Try.prog w = .ok (.value (.bool false)) w:=fun lb cb=>by
  rw [run_callFunc_extern (show Try.prog.funcs[78]? = some Try.f78 by kernel_rfl) (by kernel_rfl) (by kernel_rfl) (by kernel_rfl) (e:=Extern.SlicesOverlaps.overlaps #[62,62] #[4]) (by kernel_rfl),
   Lib.run_overlaps_apart w 62 4 65 hu 28 (fun w=>by kernel_rfl) ⟨vb,0,none⟩ ⟨g,(i + 1) * 28,none⟩ 1 1 lb cb hne 65 65 vs.toArray.size cur.size (by simp [World.shape?,hat]) (by simp [World.shape?,hg]) (by rw [hcs]; omega) (by simp [World.frozen?,hat]) (by simp [World.frozen?,hat])]
  rfl
 have hw1 : IntKind.i64.wrap ((i : Int) + 1) = (i : Int) + 1:=by rw [IntKind.wrap_i64]; omega
 have hw2 : IntKind.i64.wrap ((n : Int) + 1) = (n : Int) + 1:=by rw [IntKind.wrap_i64]; omega
 have hfin : A2.toList = (cur.toList.take (n * 28)).take (i * 28) ++ vs ++ (cur.toList.take (n * 28)).drop (i * 28) ++ cur.toList.drop (n * 28 + 28):=by
  have:=ins_listE cur.toList vs (i * 28) 28 (n * 28) hvl (by omega) (by omega)
  rw [← this,hA2,hA1,hcl,hcs0,hvl]
  simp only [show (i + 1) * 28 = i * 28 + 28 by omega,show (n - i) * 28 = n * 28 - i * 28 by omega]
 have hin : i ≤ n:=by omega
 have hb1 : (0 : Int) ≤ (i : Int) + 1:=by omega
 have htn : ((i : Int) + 1).toNat = i + 1:=by omega
 have hb2 : ¬ (cap = i + 1):=by omega
 have hb3 : (i : Int) ≤ (n : Int) + 1:=by omega
 have hb4 : ¬ (cap = i):=by omega
 clear hA1 hA2 hcs0 hcl hcs hlen hN
 go_enter Try.func57,Try.ntmps57
 go_wp2_with (simp only [hov])
 go_region_law_o (refine step_copyNE rfl _ _ 62 62 rfl (.slice (some ⟨g,(i + 1) * 28,none⟩) (n + 1 - (i + 1)) (cap - (i + 1))) (.slice (some ⟨g,i * 28,none⟩) (n + 1 - i) (cap - i)) (by simp [Act.eval,Act.put]) (by simp [Act.eval,Act.put]) (hcp1 3 (cap - (i + 1)) (cap - i)) ?_)
 go_wp2_with (at_builtin; refine list_copyNE _ rfl _ _ 62 62 rfl _ _ rfl rfl (hcp2 _ _) ?_)
 go_ret
 exact ⟨A2,rfl,rfl,hfin⟩
end Go.Proofs.Ytdnaadcbimbfmaa
namespace Go.Proofs.Ytdnaadcbimbfmaa
open Go Go.RowKit Am Go.Lib
theorem ins_list2E {α : Type} (row cs vs : List α) (a s N : Nat) (hvs : vs.length = s) (hcs : cs.length = N) (ha : a ≤ N) (hl : N + s ≤ row.length) (hr : row.take a = cs.take a) :
  ((row.take a ++ vs ++ row.drop (a + s)).take (a + s) ++ cs.drop a ++ (row.take a ++ vs ++ row.drop (a + s)).drop (a + s + (N - a))).take (N + s) = cs.take a ++ vs ++ cs.drop a:=by
 have e1 : (row.take a ++ vs ++ row.drop (a + s)).take (a + s) = cs.take a ++ vs:=by
  rw [hr,List.take_append_of_le_length (by rw [List.length_append,List.length_take]; omega),List.take_of_length_le (by rw [List.length_append,List.length_take]; omega)]
 rw [e1,List.take_append_of_le_length (by simp only [List.length_append,List.length_take,List.length_drop]; omega),List.take_of_length_le (by simp only [List.length_append,List.length_take,List.length_drop]; omega)]
set_option maxHeartbeats 4000000 in
set_option maxRecDepth 100000 in
theorem insGrowE (w : World) (g n cap i : Nat) (cur : Array Value) (vb : Nat) (vs : List Value) (hg : w.heap[g]? = some (.cells cur 65 (0,0))) (hi : i < n) (hnc : n ≤ cap) (hroom : cap < n + 1) (hcm : cap ≤ maxLen) (hcs : cur.size = cap * 28) (ho : ∀ v ∈ cur.toList.take (n * 28),v.oneCell' = true)
  (hat : w.heap[vb]? = some (.cells vs.toArray 65 (0,0))) (hvl : vs.length = 28) (h1 : ∀ u ∈ vs,u.oneCell' = true) (hn : n ≤ 1000000) :
  Calls Try.prog 57 #[.slice (some ⟨g,0,none⟩) n cap,.int .i64 i,.slice (some ⟨vb,0,none⟩) 1 1] w fun e w'=>∃ (G : Nat) (A : Array Value),e = .returned (.slice (some ⟨w.heap.size,0,none⟩) (n + 1) G)∧n + 1 ≤ G∧G ≤ maxLen∧A.size = G * 28∧Below w.heap.size w w'∧w'.heap[w.heap.size]? = some (.cells A 65 (0,0))∧A.toList.take ((n + 1) * 28) = (cur.toList.take (n * 28)).take (i * 28) ++ vs ++ (cur.toList.take (n * 28)).drop (i * 28):=by
 obtain ⟨i0,z,hi0,hz,hsz,hzs,hz1,hby⟩:=infoItE
 have hu:=Try.underlying62
 have mixed:=mixed
 have hcap : cap ≤ 9223372036854775807:=by unfold maxLen at hcm; omega
 have hz1 : ¬ ((i : Int) = (n : Int)):=by omega
 have hlen : cur.toList.length = cap * 28:=by simpa using hcs
 have hgw : g < w.heap.size:=(Array.getElem?_eq_some_iff.1 hg).1
 have hvw : vb < w.heap.size:=(Array.getElem?_eq_some_iff.1 hat).1
 obtain ⟨xs,hxs⟩ : ∃ xs,xs = cur.toList.take (n * 28):=⟨_,rfl⟩
 have hxl : xs.length = n * 28:=by rw [hxs,List.length_take]; omega
 obtain ⟨cs,hcs0⟩ : ∃ cs,cs = xs.drop (i * 28):=⟨_,rfl⟩
 have hcl : cs.length = (n - i) * 28:=by rw [hcs0,List.length_drop]; omega
 have hik : i + (n + 1 - i) = n + 1:=by omega
 obtain ⟨G,hG⟩ : ∃ G,G = grownCap w (n + 1) cap 65:=⟨_,rfl⟩
 have hGn : n + 1 ≤ G:=by rw [hG]; exact grownCap_ge w _ _ _
 have hGm : G ≤ maxLen:=by rw [hG]; exact grownCap_le_maxLen w (n + 1) cap 65 (by unfold maxLen; omega)
 obtain ⟨ROW,hROW⟩ : ∃ R : Array Value,R = (xs.take (i * 28)).toArray ++ Builtin.zeroCells z.cells (n + 1 - i) ++ Builtin.zeroCells z.cells (G - (n + 1)):=⟨_,rfl⟩
 have hRs : ROW.size = G * 28:=by
  rw [hROW]
  simp only [Array.size_append,List.size_toArray,size_zeroCells,hzs,List.length_take,hxl]
  omega
 have hRt : ROW.toList.take (i * 28) = xs.take (i * 28):=by
  rw [hROW]
  simp only [Array.toList_append,List.append_assoc]
  rw [List.take_append_of_le_length (by rw [List.length_take]; omega),List.take_of_length_le (by rw [List.length_take]; omega)]
 have hap : (Builtin.append_ #[62,3] 62 #[.slice (some ⟨g,0,none⟩) i cap,.int .i64 ((n : Int) + 1 - (i : Int))]).run Try.prog w = .ok (.slice (some ⟨w.heap.size,0,none⟩) (n + 1) G) (w.drew.alloc (.cells ROW 65)):=by
  have hold : (Builtin.firstCells i0.size i (.slice (some ⟨g,0,none⟩) i cap)).run Try.prog w.drew = .ok (xs.take (i * 28)).toArray w.drew:=by
   rw [hsz]
   exact run_firstCells_some w.drew 28 i ⟨g,0,none⟩ i cap (xs.take (i * 28)) (by rw [List.length_take]; omega) (slotE (w:=w.drew) hg 0 fun j u hj=>by
    rw [hxs,List.getElem?_take,List.getElem?_take] at hj
    rw [Nat.zero_add]
    split at hj
    ·split at hj
     ·exact hj
     ·cases hj
    ·cases hj)
  have h:=Lib.run_append_grow_zeros w 62 3 62 65 i0 z .i64 .i64 hu (by kernel_rfl) hi0 hz (some ⟨g,0,none⟩) i cap _ hold (n + 1 - i) (by omega) (by omega) (by omega) (by omega) (by have:=Nat.mul_le_mul (show n + 1 - i ≤ 1000001 by omega) hby; omega) (by rw [hik]; exact growslice_fits (by omega) (by have:=Nat.mul_le_mul (show n + 1 ≤ 1000001 by omega) hby; omega))
  rw [hik,← hG,← hROW] at h
  rw [show (n : Int) + 1 - (i : Int) = ((n + 1 - i : Nat) : Int) by omega]
  exact h
 obtain ⟨W0,hW0⟩ : ∃ W0,W0 = w.drew.alloc (.cells ROW 65):=⟨_,rfl⟩
 have hB0 : Below w.heap.size w W0:=by rw [hW0]; exact (Below.refl _ _).drew.alloc (Nat.le_refl _) _
 have hR0 : W0.heap[w.heap.size]? = some (.cells ROW 65 (0,0)):=by rw [hW0]; exact heap_alloc_new w.drew _
 rw [← hW0] at hap
 clear hW0
 obtain ⟨A1,hA1⟩ : ∃ A,A = (ROW.toList.take (i * 28) ++ vs ++ ROW.toList.drop (i * 28 + vs.length)).toArray:=⟨_,rfl⟩
 have hA1s : A1.size = G * 28:=by rw [hA1,List.size_toArray]; simp only [List.length_append,List.length_take,List.length_drop,Array.length_toList,hRs]; omega
 have hcp1 : ∀ ty dc,(Builtin.copy_ #[62,62] ty #[.slice (some ⟨w.heap.size,i * 28,none⟩) (n + 1 - i) dc,.slice (some ⟨vb,0,none⟩) 1 1]).run Try.prog W0 = .ok (goInt 1) (W0.setRow w.heap.size A1):=fun ty dc=>by
  have hmin : Nat.min 1 (n + 1 - i) = 1:=by simp only [Nat.min_def]; split <;> omega
  have:=run_copy_rowN (P:=Try.prog) W0 62 62 ty 65 w.heap.size (i * 28) (n + 1 - i) dc ⟨vb,0,none⟩ 1 1 ROW 65 vs i0 hu hi0 hR0 (by rw [hvl,hsz,hmin])
   (slotE (w:=W0) ((hB0.block vb hvw).trans hat) _ fun j u hj=>by simpa using hj) (by rw [hvl,hRs]; omega) h1
  rw [hmin,← hA1] at this
  exact this
 obtain ⟨W1,hW1⟩ : ∃ W1,W1 = W0.setRow w.heap.size A1:=⟨_,rfl⟩
 rw [← hW1] at hcp1
 have hR1 : W1.heap[w.heap.size]? = some (.cells A1 65 (0,0)):=by rw [hW1]; exact setRow_heap W0 w.heap.size ROW A1 _ _ hR0
 have hO1 : ∀ k,k < w.heap.size→W1.heap[k]? = w.heap[k]?:=fun k hk=>by rw [hW1]; exact (setRow_other W0 w.heap.size k A1 (by omega)).trans (hB0.block k hk)
 have hB1 : Below w.heap.size w W1:=⟨by rw [hW1]; exact hB0.os,by rw [hW1]; exact hB0.tape,by rw [hW1]; exact hB0.output,by rw [hW1,setRow_size]; exact hB0.size,hO1⟩
 clear hW1
 obtain ⟨A2,hA2⟩ : ∃ A,A = (A1.toList.take ((i + 1) * 28) ++ cs ++ A1.toList.drop ((i + 1) * 28 + cs.length)).toArray:=⟨_,rfl⟩
 have hcp2 : ∀ ty dc sc,(Builtin.copy_ #[62,62] ty #[.slice (some ⟨w.heap.size,(i + 1) * 28,none⟩) (n + 1 - (i + 1)) dc,.slice (some ⟨g,i * 28,none⟩) (n - i) sc]).run Try.prog W1.drew = .ok (goInt ((n - i : Nat) : Int)) (W1.drew.setRow w.heap.size A2):=fun ty dc sc=>by
  have hmin : Nat.min (n - i) (n + 1 - (i + 1)) = n - i:=by simp only [Nat.min_def]; split <;> omega
  have:=run_copy_rowN (P:=Try.prog) W1.drew 62 62 ty 65 w.heap.size ((i + 1) * 28) (n + 1 - (i + 1)) dc ⟨g,i * 28,none⟩ (n - i) sc A1 65 cs i0 hu hi0 hR1 (by rw [hcl,hsz,hmin])
   (slotE (w:=W1.drew) ((hO1 g hgw).trans hg) _ fun j u hj=>by
    rw [hcs0,hxs,List.getElem?_drop,List.getElem?_take] at hj
    split at hj
    ·exact hj
    ·cases hj) (by rw [hcl,hA1s]; omega) (fun v hv=>ho v (by rw [hcs0,hxs] at hv; exact List.mem_of_mem_drop hv))
  rw [hmin,← hA2] at this
  exact this
 have hA2s : A2.size = G * 28:=by rw [hA2,List.size_toArray]; simp only [List.length_append,List.length_take,List.length_drop,Array.length_toList,hA1s]; omega
 have hfin : A2.toList.take ((n + 1) * 28) = (cur.toList.take (n * 28)).take (i * 28) ++ vs ++ (cur.toList.take (n * 28)).drop (i * 28):=by
  have:=ins_list2E ROW.toList xs vs (i * 28) 28 (n * 28) hvl hxl (by omega) (by rw [Array.length_toList,hRs]; omega) hRt
  rw [← hxs,← this,hA2,hA1,hcl,hcs0,hvl]
  simp only [show (i + 1) * 28 = i * 28 + 28 by omega,show (n - i) * 28 = n * 28 - i * 28 by omega,show (n + 1) * 28 = n * 28 + 28 by omega]
 have hR2 : (W1.drew.setRow w.heap.size A2).heap[w.heap.size]? = some (.cells A2 65 (0,0)):=setRow_heap W1.drew w.heap.size A1 A2 _ _ hR1
 have hB2 : Below w.heap.size w (W1.drew.setRow w.heap.size A2):=⟨hB1.os,hB1.tape,hB1.output,by rw [setRow_size]; exact hB1.size,fun k hk=>(setRow_other W1.drew w.heap.size k A2 (by omega)).trans (hO1 k hk)⟩
 have hw1 : IntKind.i64.wrap ((i : Int) + 1) = (i : Int) + 1:=by rw [IntKind.wrap_i64]; omega
 have hw2 : IntKind.i64.wrap ((n : Int) + 1) = (n : Int) + 1:=by rw [IntKind.wrap_i64]; omega
 have hw3 : IntKind.i64.wrap ((n : Int) + 1 - (i : Int)) = (n : Int) + 1 - (i : Int):=by rw [IntKind.wrap_i64]; omega
 have hG63 : G ≤ 9223372036854775807:=by unfold maxLen at hGm; omega
 have hin : i ≤ n:=by omega
 have hb0 : (cap : Int) < (n : Int) + 1:=by omega
 have hb1 : (0 : Int) ≤ (i : Int) + 1:=by omega
 have htn : ((i : Int) + 1).toNat = i + 1:=by omega
 have hb2 : ¬ (G = i + 1):=by omega
 have hb3 : (i : Int) ≤ (n : Int):=by omega
 have hb4 : ¬ (G = i):=by omega
 have hb5 : ¬ (cap = i):=by omega
 clear hA1 hA2 hcs0 hcl hcs hlen hR0 hR1 hB0 hB1 hO1 hik hG hROW hRs hRt hxs hxl hgw hvw hg hat hA1s
 go_enter Try.func57,Try.ntmps57
 go_wp2_with (first
  | (at_builtin; refine Lib.wpList_append_run _ rfl _ _ _ _ rfl _ _ rfl rfl _ _ hap ?_)
  | (at_builtin; refine list_copyNE _ rfl _ _ 62 62 rfl _ _ rfl rfl (hcp1 _ _) ?_))
 go_region_law_o (refine step_copyNE rfl _ _ 62 62 rfl (.slice (some ⟨w.heap.size,(i + 1) * 28,none⟩) (n + 1 - (i + 1)) (G - (i + 1))) (.slice (some ⟨g,i * 28,none⟩) (n - i) (cap - i)) (by simp [Act.eval,Act.put]) (by simp [Act.eval,Act.put]) (hcp2 3 (G - (i + 1)) (cap - i)) ?_)
 go_wp2
 go_ret
 exact ⟨G,A2,rfl,hGn,hGm,hA2s,hB2,hR2,hfin⟩
end Go.Proofs.Ytdnaadcbimbfmaa
