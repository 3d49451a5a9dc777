/-
  LexAgain answers true for every text and every list of whole numbers: where the text splits into tokens, the tokens, written again with any list of white space between them, split into tokens of the same kinds and texts.
  Conditions: none beyond those of the card.
-/
import Derived.Test.YtjgoahlkodbemaaDoorPlain2
import Derived.Test.YtjgoahlkodbemaaDoorRow2
namespace Go.Proofs.YtjgoahlkodbemaaDoor
open Go.Eng

theorem lexAgain_holds : Rows.LexAgainCardSaid := L05.card4 fun s gs h1 h2 => L05.lexAgain s gs h1 h2

end Go.Proofs.YtjgoahlkodbemaaDoor
