/- The library contracts, under the name that layer 2's texts import. -/
import Derived.Test.YtjdlngbobnknmaaDoorShelf
