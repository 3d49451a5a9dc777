/-
  LexStands answers true for every text: where lex.Tokens tells tokens, each stands in the text at its place, one behind the other, with blanks alone around them; where it tells an error, its place lies in the text, or the text is too long.
  Conditions: none beyond those of the card.
-/
import Derived.Test.YtjgoahlkodbemaaDoorPlain
import Derived.Test.YtjgoahlkodbemaaDoorRow
namespace Go.Proofs.YtjgoahlkodbemaaDoor
open Go.Eng

theorem lexStands_holds : Rows.LexStandsCardSaid := L05.card3 fun l h => L05.lexStands l h

end Go.Proofs.YtjgoahlkodbemaaDoor
